/- The document's names: Runes, May. -/
import Derived.Test.YtjneocpbpnbopaaDkV
set_option linter.unusedVariables false
set_option linter.unusedSimpArgs false
set_option maxRecDepth 100000
namespace Go.Proofs.Ytjneocpbpnbopaa
open Go
attribute [local irreducible] Exit.then Exit.inBlock Code.wp runS bodyPost postF J runT cutQ cutR Tr Sat blk Sl Old Star Ex Pu
attribute [local irreducible] MapA MapB IterA IterS All

/-- the rest of a text -/
def restS (s : ByteArray) (p : Nat) : ByteArray := s.extract p s.size
theorem restS_zero (s : ByteArray) : restS s 0 = s := by
  unfold restS
  apply ByteArray.ext
  simp
theorem restS_size (s : ByteArray) (p : Nat) : (restS s p).size = s.size - p := by unfold restS; exact Lib.tail_size s p
theorem restS_rest (s : ByteArray) (p w : Nat) : (restS s p).extract w (restS s p).size = restS s (p + w) := by
  rw [restS_size]
  unfold restS
  apply ByteArray.ext
  rw [ByteArray.data_extract, ByteArray.data_extract, ByteArray.data_extract, Array.extract_extract]
  congr 1
  omega
theorem restS_rune (s : ByteArray) (p : Nat) : runeR (restS s p) = toldR (Utf8.decode s p) := by
  rw [runeR_decode]
  unfold restS
  rw [Lib.tail_decode]
  rfl
def rightAt (s : ByteArray) (p : Nat) : Bool := (toldR (Utf8.decode s p)).2.2
/-- how many runes, is none wrong, is none barred: from a place on -/
def cntR (s : ByteArray) : Nat → Nat → Nat
  | 0, _ => 0
  | g + 1, p => if p < s.size then cntR s g (p + (Utf8.decode s p).2) + 1 else 0
def rgtR (s : ByteArray) : Nat → Nat → Bool
  | 0, _ => true
  | g + 1, p => if p < s.size then rightAt s p && rgtR s g (p + (Utf8.decode s p).2) else true
def fineR (s : ByteArray) : Nat → Nat → Bool
  | 0, _ => true
  | g + 1, p => if p < s.size then !barB (Utf8.decode s p).1 && fineR s g (p + (Utf8.decode s p).2) else true
theorem width_pos {s : ByteArray} {p : Nat} (h : p < s.size) : 1 ≤ (Utf8.decode s p).2 := Lib.decode_width_pos s p h
theorem width_end {s : ByteArray} {p : Nat} (h : p < s.size) : p + (Utf8.decode s p).2 ≤ s.size := by
  rw [Lib.decode_at]
  unfold Lib.decodeN
  repeat' split
  all_goals (dsimp only; omega)
theorem cntR_le (s : ByteArray) : ∀ (g p : Nat), cntR s g p ≤ s.size - p
  | 0, _ => by simp [cntR]
  | g + 1, p => by
    rw [cntR]
    split
    · rename_i h
      have := width_pos h
      have := cntR_le s g (p + (Utf8.decode s p).2)
      omega
    · omega

theorem rrunes_spec (s : ByteArray) (hs : s.size ≤ 9223372036854775807) : Tr Try.prog 45 [.string s] [] (fun v M => v = .tuple #[.int .i64 (cntR s s.size 0 : Nat), .bool (rgtR s s.size 0)] ∧ M = []) := by
  refine tr_enter Try.func45 rfl Try.ntmps45 rfl (fun F => ?_)
  repeat' (first | (show J _ _ _ (runS _ _ _ (⟨_, _, _, _, _, none⟩ :: _)); (show J _ _ _ (runS _ _ _ (⟨_, .assign _, _, _, _, _⟩ :: _)); refine j_assign rfl rfl ?_)) | refine j_nil ?_ | (show J _ _ _ (Code.wp _ _ _); first | refine j_seq ?_ | refine j_region ?_) | refine j_then ?_)
  refine j_block ?_
  refine j_loop (X := { q : Nat × Nat × Nat × Bool // (s.size - q.2.1 ≤ q.1 ∧ q.2.1 ≤ s.size) ∧ q.2.2.1 ≤ q.2.1 ∧ cntR s s.size 0 = q.2.2.1 + cntR s q.1 q.2.1 ∧ rgtR s s.size 0 = (q.2.2.2 && rgtR s q.1 q.2.1) }) (fun q => [(0, .string (restS s q.1.2.1)), (4, .int .i64 (q.1.2.2.1 : Nat)), (5, .bool q.1.2.2.2)]) (fun _ => F) (fun q => s.size - q.1.2.1) ⟨(s.size, 0, 0, true), ⟨by simp, by simp⟩, by simp, by simp, by simp⟩ ⟨by show some (Value.string s) = some (Value.string (restS s 0)); rw [restS_zero], rfl, rfl, trivial⟩ .refl (fun q => ?_)
  obtain ⟨⟨g, p, k, rt⟩, ⟨hg, hp⟩, hkp, hc, hr⟩ := q
  dsimp only at hg hp hkp hc hr ⊢
  have hsz := restS_size s p
  repeat' (first | (show J _ _ _ (runS _ _ _ (⟨_, _, _, _, _, none⟩ :: _)); first | (show J _ _ _ (runS _ _ _ (⟨_, .move _, _, _, _, _⟩ :: _)); refine j_move rfl rfl ?_) | (show J _ _ _ (runS _ _ _ (⟨_, .binOp _ _ _ _ _, _, _, _, _⟩ :: _)); ((refine j_bin rfl rfl rfl rfl ?_))) | (show J _ _ _ (runS _ _ _ (⟨_, .assign _, _, _, _, _⟩ :: _)); refine j_assign rfl rfl ?_) | (show J _ _ _ (runS _ _ _ (⟨_, .call ⟨.builtin .len, _, _⟩, _, _, _, _⟩ :: _)); ((refine j_len_str rfl rfl ?_)))) | refine j_nil ?_ | (show J _ _ _ (Code.wp _ _ _); first | refine j_seq ?_ | refine j_region ?_ | refine j_block ?_ | (show J _ _ _ (Code.wp _ (.cond _ _ _) _); (refine j_dec rfl (fun h => ?_) (fun h => ?_))) | refine j_ret ?_ | refine j_skip ?_ | refine j_exit ?_) | refine j_then ?_ | refine j_then_exit ?_ | refine j_inb_here ?_)
  · have hlt : p < s.size := by omega
    have hw := width_pos hlt
    have hw2 := width_end hlt
    obtain ⟨g', rfl⟩ : ∃ g', g = g' + 1 := ⟨g - 1, by omega⟩
    rw [cntR, if_pos hlt] at hc
    rw [rgtR, if_pos hlt] at hr
    (refine j_call rfl rfl (rrune_spec (restS s p) (by omega)) (.refl) rfl (fun v M N h hN => ?_); obtain ⟨rfl, rfl⟩ := h; (try simp only [List.nil_append, List.cons_append, List.append_assoc] at hN); subst hN)
    rw [restS_rune]
    repeat' (first | (show J _ _ _ (runS _ _ _ (⟨_, _, _, _, _, none⟩ :: _)); first | (show J _ _ _ (runS _ _ _ (⟨_, .move _, _, _, _, _⟩ :: _)); refine j_move rfl rfl ?_) | (show J _ _ _ (runS _ _ _ (⟨_, .assign _, _, _, _, _⟩ :: _)); refine j_assign rfl rfl ?_) | (show J _ _ _ (runS _ _ _ (⟨_, .extract _ _, _, _, _, _⟩ :: _)); refine j_extract rfl rfl rfl ?_)) | refine j_nil ?_ | (show J _ _ _ (Code.wp _ _ _); first | refine j_seq ?_ | refine j_region ?_) | refine j_then ?_)
    refine j_fromStr (Utf8.decode s p).2 rfl rfl rfl (by omega) rfl ?_
    rw [restS_rest]
    repeat' (first | (show J _ _ _ (runS _ _ _ (⟨_, _, _, _, _, none⟩ :: _)); first | (show J _ _ _ (runS _ _ _ (⟨_, .move _, _, _, _, _⟩ :: _)); refine j_move rfl rfl ?_) | (show J _ _ _ (runS _ _ _ (⟨_, .binOp _ _ _ _ _, _, _, _, _⟩ :: _)); ((refine j_add rfl rfl (by omega) rfl ?_))) | (show J _ _ _ (runS _ _ _ (⟨_, .assign _, _, _, _, _⟩ :: _)); refine j_assign rfl rfl ?_) | (show J _ _ _ (runS _ _ _ (⟨_, .pick _ _ _, _, _, _, _⟩ :: _)); (first | refine j_pick_t rfl rfl rfl ?_ | refine j_pick_f rfl rfl rfl ?_))) | refine j_nil ?_ | (show J _ _ _ (runS _ _ _ (⟨_, _, _, _, _, some _⟩ :: _)); first | refine j_gno_u rfl rfl rfl rfl ?_ | refine j_gyes rfl rfl rfl ?_ | refine j_gsplit rfl rfl (fun h => ?_) (fun h => ?_)) | (show J _ _ _ (Code.wp _ _ _); first | refine j_seq ?_ | refine j_region ?_) | refine j_then ?_ | refine j_inb ?_)
    · refine j_round ⟨(g', p + (Utf8.decode s p).2, k + 1, rightAt s p), ⟨by dsimp only; omega, by dsimp only; omega⟩, by dsimp only; omega, by dsimp only; omega, ?_⟩ (by dsimp only; omega) ⟨rfl, rfl, rfl, trivial⟩ .refl
      rw [hr, h]; rfl
    · refine j_round ⟨(g', p + (Utf8.decode s p).2, k + 1, false), ⟨by dsimp only; omega, by dsimp only; omega⟩, by dsimp only; omega, by dsimp only; omega, ?_⟩ (by dsimp only; omega) ⟨rfl, rfl, rfl, trivial⟩ .refl
      rw [hr, h]; rfl
  · have hge : ¬ p < s.size := by omega
    have e1 : cntR s g p = 0 := by cases g with | zero => rfl | succ g => rw [cntR, if_neg hge]
    have e2 : rgtR s g p = true := by cases g with | zero => rfl | succ g => rw [rgtR, if_neg hge]
    rw [e1] at hc
    rw [e2] at hr
    rw [hc, hr]
    exact j_ret2 (M := []) rfl rfl rfl .refl ⟨by simp, rfl⟩

/-- is it a name: as the document reads it -/
def mayR (s : ByteArray) : Bool :=
  if cntR s s.size 0 < 1 ∨ 24 < cntR s s.size 0 ∨ rgtR s s.size 0 = false ∨ (s.get! 0).toNat = 45 then false else fineR s s.size 0
theorem mayR_no {s : ByteArray} (h : cntR s s.size 0 < 1 ∨ 24 < cntR s s.size 0 ∨ rgtR s s.size 0 = false ∨ (s.get! 0).toNat = 45) : mayR s = false := by unfold mayR; rw [if_pos h]
theorem mayR_fine {s : ByteArray} (h1 : 1 ≤ cntR s s.size 0) (h2 : cntR s s.size 0 ≤ 24) (h3 : rgtR s s.size 0 = true) (h4 : ¬ (s.get! 0).toNat = 45) : mayR s = fineR s s.size 0 := by
  unfold mayR
  rw [if_neg (by rw [h3]; simp; omega)]

theorem barB_yes {c : Int} (h : c < 33 ∨ (127 ≤ c ∧ c ≤ 160) ∨ c = 8232 ∨ c = 8233 ∨ c = 65533) : barB c = true := by unfold barB; simp; omega
theorem barB_no {c : Int} (h : ¬ (c < 33 ∨ (127 ≤ c ∧ c ≤ 160) ∨ c = 8232 ∨ c = 8233 ∨ c = 65533)) : barB c = false := by unfold barB; simp; omega
theorem rmay0_spec (s : ByteArray) (hs : s.size ≤ 9223372036854775807) : Tr Try.prog 22 [.string s] [] (fun v M => v = .bool (mayR s) ∧ M = []) := by
  have hc0 : 1 ≤ cntR s s.size 0 → 0 < s.size := fun h => by have := cntR_le s s.size 0; omega
  refine tr_enter Try.func22 rfl Try.ntmps22 rfl (fun F => ?_)
  repeat' (first | (show J _ _ _ (runS _ _ _ (⟨_, _, _, _, _, none⟩ :: _)); first | (show J _ _ _ (runS _ _ _ (⟨_, .move _, _, _, _, _⟩ :: _)); refine j_move rfl rfl ?_) | (show J _ _ _ (runS _ _ _ (⟨_, .assign _, _, _, _, _⟩ :: _)); refine j_assign rfl rfl ?_)) | refine j_nil ?_ | (show J _ _ _ (Code.wp _ _ _); first | refine j_seq ?_ | refine j_region ?_) | refine j_then ?_)
  (refine j_call rfl rfl (rrunes_spec s hs) (.refl) rfl (fun v M N h hN => ?_); obtain ⟨rfl, rfl⟩ := h; (try simp only [List.nil_append, List.cons_append, List.append_assoc] at hN); subst hN)
  repeat' (first | (show J _ _ _ (runS _ _ _ (⟨_, _, _, _, _, none⟩ :: _)); first | (show J _ _ _ (runS _ _ _ (⟨_, .move _, _, _, _, _⟩ :: _)); refine j_move rfl rfl ?_) | (show J _ _ _ (runS _ _ _ (⟨_, .binOp _ _ _ _ _, _, _, _, _⟩ :: _)); ((refine j_bin rfl rfl rfl rfl ?_))) | (show J _ _ _ (runS _ _ _ (⟨_, .assign _, _, _, _, _⟩ :: _)); refine j_assign rfl rfl ?_) | (show J _ _ _ (runS _ _ _ (⟨_, .pick _ _ _, _, _, _, _⟩ :: _)); (first | refine j_pick_t rfl rfl rfl ?_ | refine j_pick_f rfl rfl rfl ?_)) | (show J _ _ _ (runS _ _ _ (⟨_, .unOp _ _ _, _, _, _, _⟩ :: _)); ((refine j_not_b rfl rfl ?_))) | (show J _ _ _ (runS _ _ _ (⟨_, .extract _ _, _, _, _, _⟩ :: _)); refine j_extract rfl rfl rfl ?_)) | refine j_nil ?_ | (show J _ _ _ (runS _ _ _ (⟨_, _, _, _, _, some _⟩ :: _)); first | refine j_gno_u rfl rfl rfl rfl ?_ | refine j_gyes rfl rfl rfl ?_ | refine j_gsplit_dec rfl rfl (fun h => ?_) (fun h => ?_) | refine j_gsplit rfl rfl (fun h => ?_) (fun h => ?_)) | (show J _ _ _ (Code.wp _ _ _); first | refine j_seq ?_ | refine j_region ?_ | (show J _ _ _ (Code.wp _ (.cond _ _ _) _); (refine j_true rfl ?_)) | refine j_ret ?_) | refine j_then ?_ | refine j_then_ret ?_)
  · exact j_ret1 (M := []) rfl rfl .refl ⟨congrArg Value.bool (mayR_no (.inl (by omega))).symm, rfl⟩
  · exact j_ret1 (M := []) rfl rfl .refl ⟨congrArg Value.bool (mayR_no (.inr (.inl (by omega)))).symm, rfl⟩
  · exact j_ret1 (M := []) rfl rfl .refl ⟨congrArg Value.bool (mayR_no (.inr (.inr (.inl (by simpa using h))))).symm, rfl⟩
  rename_i hc1 hc2
  have hrt : rgtR s s.size 0 = true := by simpa using h
  clear h
  have hpos := hc0 (by omega)
  refine j_idxStr rfl rfl 0 rfl hpos rfl ?_
  repeat' (first | (show J _ _ _ (runS _ _ _ (⟨_, _, _, _, _, none⟩ :: _)); first | (show J _ _ _ (runS _ _ _ (⟨_, .binOp _ _ _ _ _, _, _, _, _⟩ :: _)); ((refine j_bin rfl rfl rfl rfl ?_))) | (show J _ _ _ (runS _ _ _ (⟨_, .assign _, _, _, _, _⟩ :: _)); refine j_assign rfl rfl ?_) | (show J _ _ _ (runS _ _ _ (⟨_, .pick _ _ _, _, _, _, _⟩ :: _)); ((refine j_pick_f rfl rfl rfl ?_)))) | refine j_nil ?_ | (show J _ _ _ (runS _ _ _ (⟨_, _, _, _, _, some _⟩ :: _)); (refine j_gyes rfl rfl rfl ?_)) | (show J _ _ _ (Code.wp _ _ _); first | refine j_seq ?_ | refine j_region ?_ | (show J _ _ _ (Code.wp _ (.cond _ _ _) _); (refine j_dec rfl (fun h => ?_) (fun h => ?_))) | refine j_ret ?_ | refine j_skip ?_) | refine j_then ?_ | refine j_then_ret ?_)
  · exact j_ret1 (M := []) rfl rfl .refl ⟨congrArg Value.bool (mayR_no (.inr (.inr (.inr (by omega))))).symm, rfl⟩
  have hm0 := mayR_fine (s := s) (by omega) (by omega) hrt (by omega)
  refine j_block ?_
  refine j_loop (X := { q : Nat × Nat // (s.size - q.2 ≤ q.1 ∧ q.2 ≤ s.size) ∧ mayR s = fineR s q.1 q.2 }) (fun q => [(0, .string (restS s q.1.2))]) (fun _ => N) (fun q => s.size - q.1.2) ⟨(s.size, 0), ⟨by simp, by simp⟩, hm0⟩ ⟨by show some (Value.string s) = some (Value.string (restS s 0)); rw [restS_zero], trivial⟩ .refl (fun q => ?_)
  obtain ⟨⟨g, p⟩, ⟨hg, hp⟩, hm⟩ := q
  dsimp only at hg hp hm ⊢
  have hsz := restS_size s p
  repeat' (first | (show J _ _ _ (runS _ _ _ (⟨_, _, _, _, _, none⟩ :: _)); first | (show J _ _ _ (runS _ _ _ (⟨_, .move _, _, _, _, _⟩ :: _)); refine j_move rfl rfl ?_) | (show J _ _ _ (runS _ _ _ (⟨_, .binOp _ _ _ _ _, _, _, _, _⟩ :: _)); ((refine j_bin rfl rfl rfl rfl ?_))) | (show J _ _ _ (runS _ _ _ (⟨_, .assign _, _, _, _, _⟩ :: _)); refine j_assign rfl rfl ?_) | (show J _ _ _ (runS _ _ _ (⟨_, .call ⟨.builtin .len, _, _⟩, _, _, _, _⟩ :: _)); ((refine j_len_str rfl rfl ?_)))) | refine j_nil ?_ | (show J _ _ _ (Code.wp _ _ _); first | refine j_seq ?_ | refine j_region ?_ | refine j_block ?_ | (show J _ _ _ (Code.wp _ (.cond _ _ _) _); (refine j_dec rfl (fun h => ?_) (fun h => ?_))) | refine j_ret ?_ | refine j_skip ?_ | refine j_exit ?_) | refine j_then ?_ | refine j_then_exit ?_ | refine j_inb_here ?_)
  · have hlt : p < s.size := by omega
    have hw := width_pos hlt
    have hw2 := width_end hlt
    obtain ⟨g', rfl⟩ : ∃ g', g = g' + 1 := ⟨g - 1, by omega⟩
    rw [fineR, if_pos hlt] at hm
    (refine j_call rfl rfl (rrune_spec (restS s p) (by omega)) (.refl) rfl (fun v M N h hN => ?_); obtain ⟨rfl, rfl⟩ := h; (try simp only [List.nil_append, List.cons_append, List.append_assoc] at hN); subst hN)
    rw [restS_rune]
    have e1 : (toldR (Utf8.decode s p)).1 = ((Utf8.decode s p).1 : Int) := rfl
    repeat' (first | (show J _ _ _ (runS _ _ _ (⟨_, _, _, _, _, none⟩ :: _)); first | (show J _ _ _ (runS _ _ _ (⟨_, .move _, _, _, _, _⟩ :: _)); refine j_move rfl rfl ?_) | (show J _ _ _ (runS _ _ _ (⟨_, .binOp _ _ _ _ _, _, _, _, _⟩ :: _)); ((refine j_bin rfl rfl rfl rfl ?_))) | (show J _ _ _ (runS _ _ _ (⟨_, .assign _, _, _, _, _⟩ :: _)); refine j_assign rfl rfl ?_) | (show J _ _ _ (runS _ _ _ (⟨_, .pick _ _ _, _, _, _, _⟩ :: _)); (first | refine j_pick_t rfl rfl rfl ?_ | refine j_pick_f rfl rfl rfl ?_)) | (show J _ _ _ (runS _ _ _ (⟨_, .extract _ _, _, _, _, _⟩ :: _)); refine j_extract rfl rfl rfl ?_)) | refine j_nil ?_ | (show J _ _ _ (runS _ _ _ (⟨_, _, _, _, _, some _⟩ :: _)); first | refine j_gno_u rfl rfl rfl rfl ?_ | refine j_gun_u rfl rfl rfl ?_ | refine j_gyes rfl rfl rfl ?_ | refine j_gsplit_dec rfl rfl (fun h => ?_) (fun h => ?_)) | (show J _ _ _ (Code.wp _ _ _); first | refine j_seq ?_ | refine j_region ?_ | (show J _ _ _ (Code.wp _ (.cond _ _ _) _); first | refine j_true rfl ?_ | refine j_dec rfl (fun h => ?_) (fun h => ?_)) | refine j_ret ?_ | refine j_skip ?_) | refine j_then ?_ | refine j_then_ret ?_ | refine j_inb_ret ?_)
    all_goals first
      | exact j_ret1 (M := []) rfl rfl .refl ⟨congrArg Value.bool (show mayR s = false by rw [hm, barB_yes (by omega)]; rfl).symm, rfl⟩
      | skip
    all_goals
      rw [barB_no (by omega), Bool.not_false, Bool.true_and] at hm
      repeat' (fail)
      refine j_fromStr (Utf8.decode s p).2 rfl rfl rfl (by omega) rfl ?_
      rw [restS_rest]
      repeat' (first | (show J _ _ _ (runS _ _ _ (⟨_, _, _, _, _, none⟩ :: _)); (show J _ _ _ (runS _ _ _ (⟨_, .assign _, _, _, _, _⟩ :: _)); refine j_assign rfl rfl ?_)) | refine j_nil ?_ | refine j_then ?_ | refine j_inb ?_)
      exact j_round ⟨(g', p + (Utf8.decode s p).2), ⟨by dsimp only; omega, by dsimp only; omega⟩, hm⟩ (by dsimp only; omega) ⟨rfl, trivial⟩ .refl
  · have hge : ¬ p < s.size := by omega
    have e1 : fineR s g p = true := by cases g with | zero => rfl | succ g => rw [fineR, if_neg hge]
    rw [hm, e1]
    exact j_ret1 (M := []) rfl rfl .refl ⟨rfl, rfl⟩

/-- both readings are one -/
theorem fineR_rgt (s : ByteArray) : ∀ (g p : Nat), fineR s g p = true → rgtR s g p = true
  | 0, _, _ => rfl
  | g + 1, p, h => by
    rw [fineR] at h
    rw [rgtR]
    split
    · rename_i hp
      rw [if_pos hp] at h
      simp only [Bool.and_eq_true, Bool.not_eq_true'] at h
      rw [fineR_rgt s g _ h.2, Bool.and_true]
      unfold rightAt toldR
      dsimp only
      have : ¬ (Utf8.decode s p).1 = 65533 := fun he => by
        have h1 := h.1
        rw [he] at h1
        exact absurd h1 (by decide)
      simp [this]
    · rfl
theorem mayGo_fine (s : ByteArray) : ∀ (f g n p : Nat), s.size - p ≤ f → g + n = 26 → n ≤ 24 → mayGo s g n p = (fineR s f p && decide (1 ≤ n + cntR s f p) && decide (n + cntR s f p ≤ 24) && !(decide (p = 0) && decide (p < s.size) && decide ((Utf8.decode s p).1 = 45)))
  | f, 0, n, p, hf, hg, hn => by omega
  | 0, g + 1, n, p, hf, hg, hn => by
    have hp : ¬ p < s.size := by omega
    rw [mayGo, if_neg hp]
    rw [show cntR s 0 p = 0 from rfl, show fineR s 0 p = true from rfl, Nat.add_zero, decide_eq_true hn, decide_eq_false hp]
    simp only [Bool.and_false, Bool.false_and, Bool.not_false, Bool.and_true, Bool.true_and]
    rfl
  | f + 1, g + 1, n, p, hf, hg, hn => by
    rcases Decidable.em (p < s.size) with hp | hp
    · have hw := width_pos hp
      rw [mayGo, if_pos hp, fineR, if_pos hp, cntR, if_pos hp, decide_eq_true hp, Bool.and_true]
      rcases Decidable.em (24 < n + 1) with h1 | h1
      · rw [if_pos h1, decide_eq_false (show ¬ n + (cntR s f (p + (Utf8.decode s p).2) + 1) ≤ 24 by omega)]
        simp
      · rw [if_neg h1]
        rcases Decidable.em (barB (Utf8.decode s p).1 = true) with h2 | h2
        · rw [if_pos h2, h2]
          simp
        · rw [if_neg h2, Bool.eq_false_iff.2 h2]
          rcases Decidable.em (p = 0 ∧ (Utf8.decode s p).1 = 45) with h3 | h3
          · rw [if_pos h3]
            simp [h3.1, h3.2]
            intros
            have := h3.2
            rw [h3.1] at this
            assumption
          · rw [if_neg h3, mayGo_fine s f g (n + 1) _ (by omega) (by omega) (by omega)]
            have e1 : (decide (p = 0) && decide ((Utf8.decode s p).1 = 45)) = false := by
              rw [Bool.eq_false_iff]; simpa using h3
            have e2 : (decide (p + (Utf8.decode s p).2 = 0)) = false := by simp; omega
            rw [e1, e2]
            simp only [Bool.not_false, Bool.true_and, Bool.false_and, Bool.and_true]
            rw [show n + 1 + cntR s f (p + (Utf8.decode s p).2) = n + (cntR s f (p + (Utf8.decode s p).2) + 1) from by omega]
    · rw [mayGo, if_neg hp, fineR, if_neg hp, cntR, if_neg hp]
      simp only [Nat.add_zero, decide_eq_false hp, Bool.and_false, Bool.false_and, Bool.not_false, Bool.and_true, Bool.true_and]
      rw [decide_eq_true hn, Bool.and_true]
      rfl
theorem dash_at (s : ByteArray) : ((s.get! 0).toNat = 45) ↔ (Utf8.decode s 0).1 = 45 := by
  have e := congrArg (·.1) (runeR_decode s)
  dsimp only at e
  have hb := bz_bd s 0
  have hz : bz s 0 = ((s.get! 0).toNat : Nat) := rfl
  have hf : ∀ n low c0, 46 ≤ low → (finR s n low c0).1 ≠ 45 := by
    intro n low c0 hl
    unfold finR badR
    split
    · decide
    · split
      · decide
      · split
        · decide
        · rename_i h
          dsimp only
          omega
  unfold runeR at e
  by_cases h0 : bz s 0 < 128
  · rw [if_pos h0] at e
    dsimp only at e
    omega
  · rw [if_neg h0] at e
    constructor
    · intro h; omega
    · intro h
      exfalso
      rw [h] at e
      split at e
      · exact hf _ _ _ (by decide) e
      · split at e
        · exact hf _ _ _ (by decide) e
        · split at e
          · exact hf _ _ _ (by decide) e
          · exact absurd e (by decide)
theorem mayR_mayB (s : ByteArray) : mayR s = mayB s := by
  unfold mayB
  rw [mayGo_fine s s.size 26 0 0 (by omega) (by omega) (by omega)]
  simp only [Nat.zero_add, decide_true, Bool.true_and]
  have hc0 : 1 ≤ cntR s s.size 0 → 0 < s.size := fun h => by have := cntR_le s s.size 0; omega
  rcases Decidable.em (cntR s s.size 0 < 1) with h1 | h1
  · rw [mayR_no (.inl h1), decide_eq_false (by omega)]; simp
  rcases Decidable.em (24 < cntR s s.size 0) with h2 | h2
  · rw [mayR_no (.inr (.inl h2)), decide_eq_false (show ¬ cntR s s.size 0 ≤ 24 by omega)]; simp
  rw [decide_eq_true (show 1 ≤ cntR s s.size 0 by omega), decide_eq_true (show cntR s s.size 0 ≤ 24 by omega), decide_eq_true (hc0 (by omega))]
  rcases Decidable.em ((s.get! 0).toNat = 45) with h3 | h3
  · rw [mayR_no (.inr (.inr (.inr h3))), decide_eq_true ((dash_at s).1 h3)]; simp
  rw [decide_eq_false (fun h => h3 ((dash_at s).2 h))]
  simp only [Bool.and_true, Bool.and_false, Bool.not_false]
  rcases Decidable.em (rgtR s s.size 0 = true) with h4 | h4
  · rw [mayR_fine (by omega) (by omega) h4 h3]
  · rw [mayR_no (.inr (.inr (.inl (Bool.eq_false_iff.2 h4))))]
    exact (Bool.eq_false_iff.2 (fun h => h4 (fineR_rgt s _ _ h))).symm

theorem rmay_spec (s : ByteArray) (hs : s.size ≤ 9223372036854775807) : Tr Try.prog 22 [.string s] [] (fun v M => v = .bool (mayB s) ∧ M = []) := by
  rw [← mayR_mayB]
  exact rmay0_spec s hs

end Go.Proofs.Ytjneocpbpnbopaa
