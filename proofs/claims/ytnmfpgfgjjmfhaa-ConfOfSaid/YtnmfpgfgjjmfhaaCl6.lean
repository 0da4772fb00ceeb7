/- conf: the document's answer for what is reached. -/
import Derived.Test.YtnmfpgfgjjmfhaaCl5
set_option linter.unusedVariables false
set_option linter.unusedSimpArgs false
set_option maxRecDepth 100000
namespace Go.Proofs.Ytnmfpgfgjjmfhaa
open Go
attribute [local irreducible] Exit.then Exit.inBlock Code.wp runS bodyPost postF J runT cutQ cutR Tr Sat blk Sl Old Star Ex Pu
/-- of what most have: what the members' numbers say -/
def condL (L : List Int) (x : Int) : Prop := L.length < 2 * L.countP fun y => decide (x ≤ y)
theorem best_is {m : Int} {mt : List Int} {best : Int} (h0 : 0 ≤ best) (h1 : ∀ j, (h : j < (memC m).length) → (memC m)[j].toNat < mt.length → condL (reachL m mt) (mt.getD (memC m)[j].toNat 0) → mt.getD (memC m)[j].toNat 0 ≤ best) (h2 : best = 0 ∨ condL (reachL m mt) best) : best = reachedC m mt := by
  by_cases hp : 0 < (reachL m mt).length
  · rw [reachedC_med hp]
    have hm := med_mem hp
    have hmi := fun x => med_iff hp x
    apply Int.le_antisymm
    · rcases h2 with h | h
      · rw [h]; omega
      · have := (hmi best).2 h; omega
    · by_cases hn : 0 < med (reachL m mt)
      · rw [Int.max_eq_left (by omega)]
        obtain ⟨x, hx, e⟩ := List.mem_map.1 hm
        obtain ⟨j, hj, ej⟩ := List.mem_iff_getElem.1 hx
        have hlt : x.toNat < mt.length := by
          refine Nat.lt_of_not_le fun hge => ?_
          rw [List.getD_eq_getElem?_getD, List.getElem?_eq_none hge] at e
          change (0 : Int) = _ at e
          omega
        have := h1 j hj (by rw [ej]; exact hlt) (by rw [ej, e]; exact (hmi _).1 (Int.le_refl _))
        rw [ej, e] at this
        exact this
      · omega
  · have e : reachedC m mt = 0 := by unfold reachedC; rw [if_pos (by omega)]
    have hl := reachL_len m mt
    rw [e]
    rcases h2 with h | h
    · exact h
    · unfold condL at h
      have : (reachL m mt).countP (fun y => decide (best ≤ y)) ≤ (reachL m mt).length := List.countP_le_length
      omega
theorem rreached_spec (m : Int) (am : Option Addr) (cm : Nat) (mt : List Int) (hmt : mt.length ≤ 1000) (Lp : List HP) (hv : Sees Lp (fun w => Vw w am mt)) : Tr Try.prog 20 [.int .i64 m, .slice am mt.length cm] Lp (fun r M => r = .int .i64 (reachedC m mt) ∧ M = Lp) := by
  refine tr_enter Try.func20 rfl Try.ntmps20 rfl (fun F => ?_)
  repeat' (first | (show J _ _ _ (runS _ _ _ _ (⟨_, _, _, _, _, none⟩ :: _)); first | (show J _ _ _ (runS _ _ _ _ (⟨_, .move _, _, _, _, _⟩ :: _)); refine j_move rfl rfl ?_) | (show J _ _ _ (runS _ _ _ _ (⟨_, .assign _, _, _, _, _⟩ :: _)); refine j_assign rfl rfl ?_)) | refine j_nil ?_ | (show J _ _ _ (Code.wp _ _ _); first | refine j_seq ?_ | refine j_region ?_) | refine j_then ?_)
  (refine j_call rfl rfl (rlist_spec m Lp) ((by repeat ((exact .refl)))) rfl (fun v M N h hN => ?_); obtain ⟨a1, c1, rfl, rfl⟩ := h; (try simp only [List.nil_append, List.cons_append, List.append_assoc] at hN); subst hN)
  have hl7 := memC_len m
  repeat' (first | (show J _ _ _ (runS _ _ _ _ (⟨_, _, _, _, _, none⟩ :: _)); (show J _ _ _ (runS _ _ _ _ (⟨_, .assign _, _, _, _, _⟩ :: _)); refine j_assign rfl rfl ?_)) | refine j_nil ?_ | (show J _ _ _ (Code.wp _ _ _); first | refine j_seq ?_ | refine j_region ?_ | refine j_block ?_) | refine j_then ?_)
  refine j_loop (X := { q : Nat × Int // q.1 ≤ (memC m).length ∧ 0 ≤ q.2 ∧ (∀ j, (h : j < (memC m).length) → j < q.1 → (memC m)[j].toNat < mt.length → condL (reachL m mt) (mt.getD (memC m)[j].toNat 0) → mt.getD (memC m)[j].toNat 0 ≤ q.2) ∧ (q.2 = 0 ∨ condL (reachL m mt) q.2) }) (fun q => [(0, .int .i64 m), (1, .slice am mt.length cm), (5, .slice a1 (memC m).length c1), (6, .int .i64 q.1.2), (7, .int .i64 (q.1.1 : Nat))]) (fun _ => Sl 3 a1 c1 (memC m) :: (Lp ++ F)) (fun q => (memC m).length - q.1.1) ⟨(0, 0), by omega, by dsimp only; omega, fun j h hj => absurd hj (Nat.not_lt_zero _), .inl rfl⟩ ⟨rfl, rfl, rfl, rfl, rfl, trivial⟩ .refl (fun q => ?_)
  obtain ⟨⟨i, best⟩, hi, hb0, hbu, hbr⟩ := q
  dsimp only at hi hb0 hbu hbr ⊢
  repeat' (first | (show J _ _ _ (runS _ _ _ _ (⟨_, _, _, _, _, none⟩ :: _)); first | (show J _ _ _ (runS _ _ _ _ (⟨_, .move _, _, _, _, _⟩ :: _)); refine j_move rfl rfl ?_) | (show J _ _ _ (runS _ _ _ _ (⟨_, .binOp _ _ _ _ _, _, _, _, _⟩ :: _)); ((refine j_bin rfl rfl rfl rfl ?_))) | (show J _ _ _ (runS _ _ _ _ (⟨_, .assign _, _, _, _, _⟩ :: _)); refine j_assign rfl rfl ?_) | (show J _ _ _ (runS _ _ _ _ (⟨_, .call ⟨.builtin .len, _, _⟩, _, _, _, _⟩ :: _)); ((refine j_len rfl rfl ?_)))) | refine j_nil ?_ | (show J _ _ _ (Code.wp _ _ _); first | refine j_seq ?_ | refine j_region ?_ | refine j_block ?_ | (show J _ _ _ (Code.wp _ (.cond _ _ _) _); (refine j_dec rfl (fun h => ?_) (fun h => ?_))) | refine j_ret ?_ | refine j_skip ?_ | refine j_exit ?_) | refine j_then ?_ | refine j_then_exit ?_ | refine j_inb_here ?_)
  · have hi2 : i < (memC m).length := by omega
    have hxi := memC_lt (m := m) (i := (memC m)[i]) (List.getElem_mem hi2)
    obtain ⟨xi, hx⟩ : ∃ x : Nat, (memC m)[i] = x := ⟨(memC m)[i].toNat, by omega⟩
    (refine j_idx (α := Int) (M := [Sl 3 a1 c1 (memC m)]) rfl rfl (by repeat ((exact .refl))) sees_sl rfl i rfl hi2 rfl (fun b3 o3 ha3 hc3 => ?_); (try fail); refine j_loadv (M := [Sl 3 a1 c1 (memC m)]) (v := .int .i64 ((xi : Nat) : Int)) rfl rfl (by repeat ((exact .refl))) (hc3 0 _ (by rw [hx]; rfl)) rfl ?_)
    rw [hx] at hxi
    repeat' (first | (show J _ _ _ (runS _ _ _ _ (⟨_, _, _, _, _, none⟩ :: _)); first | (show J _ _ _ (runS _ _ _ _ (⟨_, .move _, _, _, _, _⟩ :: _)); refine j_move rfl rfl ?_) | (show J _ _ _ (runS _ _ _ _ (⟨_, .binOp _ _ _ _ _, _, _, _, _⟩ :: _)); (first | refine j_add rfl rfl (by omega) rfl ?_ | refine j_bin rfl rfl rfl rfl ?_)) | (show J _ _ _ (runS _ _ _ _ (⟨_, .assign _, _, _, _, _⟩ :: _)); refine j_assign rfl rfl ?_) | (show J _ _ _ (runS _ _ _ _ (⟨_, .call ⟨.builtin .len, _, _⟩, _, _, _, _⟩ :: _)); ((refine j_len rfl rfl ?_)))) | refine j_nil ?_ | (show J _ _ _ (Code.wp _ _ _); first | refine j_seq ?_ | refine j_region ?_ | refine j_block ?_ | (show J _ _ _ (Code.wp _ (.cond _ _ _) _); (refine j_dec rfl (fun h => ?_) (fun h => ?_))) | refine j_skip ?_ | refine j_exit ?_) | refine j_then ?_ | refine j_then_exit ?_ | refine j_inb_here ?_)
    · refine j_round ⟨(i + 1, best), hi2, hb0, fun j h hj hlt hc => ?_, hbr⟩ (by dsimp only; omega) ⟨rfl, rfl, rfl, rfl, rfl, trivial⟩ .refl
      by_cases e : j = i
      · subst e
        rw [hx, Int.toNat_natCast] at hlt
        omega
      · exact hbu j h (by dsimp only at hj; omega) hlt hc
    have hxl : xi < mt.length := by omega
    refine j_loop (X := { k : Nat // k ≤ (memC m).length }) (fun k => [(0, .int .i64 m), (1, .slice am mt.length cm), (5, .slice a1 (memC m).length c1), (6, .int .i64 best), (7, .int .i64 (i : Nat)), (8, .int .i64 (((reachL m mt).take k.1).countP (fun y => decide (mt.getD xi 0 ≤ y)) : Nat)), (9, .int .i64 (k.1 : Nat))]) (fun _ => Sl 3 a1 c1 (memC m) :: (Lp ++ F)) (fun k => (memC m).length - k.1) ⟨0, by omega⟩ ⟨rfl, rfl, rfl, rfl, rfl, rfl, rfl, trivial⟩ .refl (fun k => ?_)
    obtain ⟨k, hk⟩ := k
    have ht : (reachL m mt).take (memC m).length = reachL m mt := by rw [← reachL_len m mt, List.take_length]
    have hc : ((reachL m mt).take k).countP (fun y => decide (mt.getD xi 0 ≤ y)) ≤ 7 := Nat.le_trans List.countP_le_length (by rw [List.length_take, reachL_len]; omega)
    dsimp only
    repeat' (first | (show J _ _ _ (runS _ _ _ _ (⟨_, _, _, _, _, none⟩ :: _)); first | (show J _ _ _ (runS _ _ _ _ (⟨_, .move _, _, _, _, _⟩ :: _)); refine j_move rfl rfl ?_) | (show J _ _ _ (runS _ _ _ _ (⟨_, .binOp _ _ _ _ _, _, _, _, _⟩ :: _)); (first | refine j_add rfl rfl (by omega) rfl ?_ | refine j_sub_ rfl rfl (by omega) rfl ?_ | refine j_bin rfl rfl rfl rfl ?_)) | (show J _ _ _ (runS _ _ _ _ (⟨_, .assign _, _, _, _, _⟩ :: _)); refine j_assign rfl rfl ?_) | (show J _ _ _ (runS _ _ _ _ (⟨_, .pick _ _ _, _, _, _, _⟩ :: _)); ((refine j_pick_f rfl rfl rfl ?_))) | (show J _ _ _ (runS _ _ _ _ (⟨_, .call ⟨.builtin .len, _, _⟩, _, _, _, _⟩ :: _)); ((refine j_len rfl rfl ?_)))) | refine j_nil ?_ | (show J _ _ _ (runS _ _ _ _ (⟨_, _, _, _, _, some _⟩ :: _)); first | refine j_gno_u rfl rfl rfl rfl ?_ | refine j_gyes rfl rfl rfl ?_ | refine j_gsplit_dec rfl rfl (fun h => ?_) (fun h => ?_)) | (show J _ _ _ (Code.wp _ _ _); first | refine j_seq ?_ | refine j_region ?_ | refine j_block ?_ | (show J _ _ _ (Code.wp _ (.cond _ _ _) _); first | refine j_false rfl ?_ | refine j_dec rfl (fun h => ?_) (fun h => ?_)) | refine j_skip ?_ | refine j_exit ?_ | refine j_draw (by decide +kernel) ?_) | refine j_then ?_ | refine j_then_exit ?_ | refine j_inb ?_ | refine j_inb_here ?_)
    · have hk2 : k < (memC m).length := by omega
      have hk3 : k < (reachL m mt).length := by rw [reachL_len]; omega
      have hxk0 := memC_lt (m := m) (i := (memC m)[k]) (List.getElem_mem hk2)
      obtain ⟨xk, hxk⟩ : ∃ x : Nat, (memC m)[k] = x := ⟨(memC m)[k].toNat, by omega⟩
      rw [hxk] at hxk0
      have hs := countP_take_succ (p := fun y => decide (mt.getD xi 0 ≤ y)) hk3
      rw [show (reachL m mt)[k] = mt.getD xk 0 from by simp [reachL, hxk]] at hs
      have hge : mt.length ≤ xk → mt.getD xk 0 = 0 := fun h => by rw [List.getD_eq_getElem?_getD, List.getElem?_eq_none h]; rfl
      (refine j_idx (α := Int) (M := [Sl 3 a1 c1 (memC m)]) rfl rfl (by repeat ((exact .refl))) sees_sl rfl k rfl hk2 rfl (fun b3 o3 ha3 hc3 => ?_); (try fail); refine j_loadv (M := [Sl 3 a1 c1 (memC m)]) (v := .int .i64 ((xk : Nat) : Int)) rfl rfl (by repeat ((exact .refl))) (hc3 0 _ (by rw [hxk]; rfl)) rfl ?_)
      repeat' (first | (show J _ _ _ (runS _ _ _ _ (⟨_, _, _, _, _, none⟩ :: _)); first | (show J _ _ _ (runS _ _ _ _ (⟨_, .move _, _, _, _, _⟩ :: _)); refine j_move rfl rfl ?_) | (show J _ _ _ (runS _ _ _ _ (⟨_, .binOp _ _ _ _ _, _, _, _, _⟩ :: _)); ((refine j_bin rfl rfl rfl rfl ?_))) | (show J _ _ _ (runS _ _ _ _ (⟨_, .pick _ _ _, _, _, _, _⟩ :: _)); ((refine j_pick_f rfl rfl rfl ?_))) | (show J _ _ _ (runS _ _ _ _ (⟨_, .call ⟨.builtin .len, _, _⟩, _, _, _, _⟩ :: _)); ((refine j_len rfl rfl ?_)))) | (show J _ _ _ (runS _ _ _ _ (⟨_, _, _, _, _, some _⟩ :: _)); first | refine j_gno_u rfl rfl rfl rfl ?_ | refine j_gyes rfl rfl rfl ?_ | refine j_gsplit_dec rfl rfl (fun h => ?_) (fun h => ?_)))
      · have hkl : xk < mt.length := by omega
        (refine j_idx (α := Int) (M := [Sl 3 a1 c1 (memC m)]) rfl rfl (by repeat ((exact .refl))) sees_sl rfl k rfl hk2 rfl (fun b3 o3 ha3 hc3 => ?_); (try (show J _ _ _ (runS _ _ _ _ (⟨_, _, _, _, _, some _⟩ :: _)); (refine j_gyes rfl rfl rfl ?_))); refine j_loadv (M := [Sl 3 a1 c1 (memC m)]) (v := .int .i64 ((xk : Nat) : Int)) rfl rfl (by repeat ((exact .refl))) (hc3 0 _ (by rw [hxk]; rfl)) rfl ?_)
        repeat' ((show J _ _ _ (runS _ _ _ _ (⟨_, _, _, _, _, some _⟩ :: _)); (refine j_gyes rfl rfl rfl ?_)))
        (refine j_idx (α := Int) (M := Lp) rfl rfl (by repeat (first | exact .refl | refine .drop ?_)) hv rfl xk rfl hkl rfl (fun b3 o3 ha3 hc3 => ?_); (try (show J _ _ _ (runS _ _ _ _ (⟨_, _, _, _, _, some _⟩ :: _)); (refine j_gyes rfl rfl rfl ?_))); refine j_loadv (M := Lp) (v := .int .i64 (mt.getD xk 0)) rfl rfl (by repeat (first | exact .refl | refine .drop ?_)) (hc3 0 _ (by rw [List.getD_eq_getElem?_getD, List.getElem?_eq_getElem hkl]; rfl)) rfl ?_)
        repeat' (first | (show J _ _ _ (runS _ _ _ _ (⟨_, _, _, _, _, none⟩ :: _)); (show J _ _ _ (runS _ _ _ _ (⟨_, .move _, _, _, _, _⟩ :: _)); refine j_move rfl rfl ?_)) | (show J _ _ _ (runS _ _ _ _ (⟨_, _, _, _, _, some _⟩ :: _)); (refine j_gyes rfl rfl rfl ?_)))
        (refine j_idx (α := Int) (M := [Sl 3 a1 c1 (memC m)]) rfl rfl (by repeat ((exact .refl))) sees_sl rfl i rfl hi2 rfl (fun b3 o3 ha3 hc3 => ?_); (try (show J _ _ _ (runS _ _ _ _ (⟨_, _, _, _, _, some _⟩ :: _)); (refine j_gyes rfl rfl rfl ?_))); refine j_loadv (M := [Sl 3 a1 c1 (memC m)]) (v := .int .i64 ((xi : Nat) : Int)) rfl rfl (by repeat ((exact .refl))) (hc3 0 _ (by rw [hx]; rfl)) rfl ?_)
        repeat' ((show J _ _ _ (runS _ _ _ _ (⟨_, _, _, _, _, some _⟩ :: _)); (refine j_gyes rfl rfl rfl ?_)))
        (refine j_idx (α := Int) (M := Lp) rfl rfl (by repeat (first | exact .refl | refine .drop ?_)) hv rfl xi rfl hxl rfl (fun b3 o3 ha3 hc3 => ?_); (try (show J _ _ _ (runS _ _ _ _ (⟨_, _, _, _, _, some _⟩ :: _)); (refine j_gyes rfl rfl rfl ?_))); refine j_loadv (M := Lp) (v := .int .i64 (mt.getD xi 0)) rfl rfl (by repeat (first | exact .refl | refine .drop ?_)) (hc3 0 _ (by rw [List.getD_eq_getElem?_getD, List.getElem?_eq_getElem hxl]; rfl)) rfl ?_)
        repeat' (first | (show J _ _ _ (runS _ _ _ _ (⟨_, _, _, _, _, none⟩ :: _)); first | (show J _ _ _ (runS _ _ _ _ (⟨_, .move _, _, _, _, _⟩ :: _)); refine j_move rfl rfl ?_) | (show J _ _ _ (runS _ _ _ _ (⟨_, .binOp _ _ _ _ _, _, _, _, _⟩ :: _)); (first | refine j_add rfl rfl (by omega) rfl ?_ | refine j_bin rfl rfl rfl rfl ?_)) | (show J _ _ _ (runS _ _ _ _ (⟨_, .assign _, _, _, _, _⟩ :: _)); refine j_assign rfl rfl ?_) | (show J _ _ _ (runS _ _ _ _ (⟨_, .pick _ _ _, _, _, _, _⟩ :: _)); ((refine j_pick_t rfl rfl rfl ?_)))) | refine j_nil ?_ | (show J _ _ _ (runS _ _ _ _ (⟨_, _, _, _, _, some _⟩ :: _)); first | refine j_gno_u rfl rfl rfl rfl ?_ | refine j_gun_u rfl rfl rfl ?_ | refine j_gyes rfl rfl rfl ?_ | refine j_gsplit_dec rfl rfl (fun h => ?_) (fun h => ?_)) | (show J _ _ _ (Code.wp _ _ _); first | refine j_region ?_ | (show J _ _ _ (Code.wp _ (.cond _ _ _) _); (refine j_true rfl ?_))) | refine j_then ?_ | refine j_inb ?_)
        · (rw [show ((((reachL m mt).take k).countP (fun y => decide (mt.getD xi 0 ≤ y)) : Nat) : Int) + 1 = ((((reachL m mt).take (k + 1)).countP (fun y => decide (mt.getD xi 0 ≤ y)) : Nat) : Int) from by rw [hs, decide_eq_true (show mt.getD xi 0 ≤ mt.getD xk 0 by omega)]; rfl]; exact j_round ⟨k + 1, by omega⟩ (by dsimp only; omega) ⟨rfl, rfl, rfl, rfl, rfl, rfl, rfl, trivial⟩ .refl)
        (refine j_idx (α := Int) (M := [Sl 3 a1 c1 (memC m)]) rfl rfl (by repeat ((exact .refl))) sees_sl rfl k rfl hk2 rfl (fun b3 o3 ha3 hc3 => ?_); (try (show J _ _ _ (runS _ _ _ _ (⟨_, _, _, _, _, some _⟩ :: _)); (refine j_gyes rfl rfl rfl ?_))); refine j_loadv (M := [Sl 3 a1 c1 (memC m)]) (v := .int .i64 ((xk : Nat) : Int)) rfl rfl (by repeat ((exact .refl))) (hc3 0 _ (by rw [hxk]; rfl)) rfl ?_)
        repeat' (first | (show J _ _ _ (runS _ _ _ _ (⟨_, _, _, _, _, none⟩ :: _)); first | (show J _ _ _ (runS _ _ _ _ (⟨_, .move _, _, _, _, _⟩ :: _)); refine j_move rfl rfl ?_) | (show J _ _ _ (runS _ _ _ _ (⟨_, .binOp _ _ _ _ _, _, _, _, _⟩ :: _)); (first | refine j_add rfl rfl (by omega) rfl ?_ | refine j_bin rfl rfl rfl rfl ?_)) | (show J _ _ _ (runS _ _ _ _ (⟨_, .assign _, _, _, _, _⟩ :: _)); refine j_assign rfl rfl ?_) | (show J _ _ _ (runS _ _ _ _ (⟨_, .pick _ _ _, _, _, _, _⟩ :: _)); ((refine j_pick_f rfl rfl rfl ?_))) | (show J _ _ _ (runS _ _ _ _ (⟨_, .call ⟨.builtin .len, _, _⟩, _, _, _, _⟩ :: _)); ((refine j_len rfl rfl ?_)))) | refine j_nil ?_ | (show J _ _ _ (runS _ _ _ _ (⟨_, _, _, _, _, some _⟩ :: _)); first | refine j_gno_u rfl rfl rfl rfl ?_ | refine j_gyes rfl rfl rfl ?_ | refine j_gsplit_dec rfl rfl (fun h => ?_) (fun h => ?_)) | (show J _ _ _ (Code.wp _ _ _); first | refine j_region ?_ | (show J _ _ _ (Code.wp _ (.cond _ _ _) _); (refine j_false rfl ?_)) | refine j_skip ?_) | refine j_then ?_ | refine j_inb ?_)
        · exfalso; omega
        · (rw [show ((reachL m mt).take k).countP (fun y => decide (mt.getD xi 0 ≤ y)) = ((reachL m mt).take (k + 1)).countP (fun y => decide (mt.getD xi 0 ≤ y)) from by rw [hs, decide_eq_false (show ¬ mt.getD xi 0 ≤ mt.getD xk 0 by omega)]; rfl]; exact j_round ⟨k + 1, by omega⟩ (by dsimp only; omega) ⟨rfl, rfl, rfl, rfl, rfl, rfl, rfl, trivial⟩ .refl)
      · (refine j_idx (α := Int) (M := [Sl 3 a1 c1 (memC m)]) rfl rfl (by repeat ((exact .refl))) sees_sl rfl k rfl hk2 rfl (fun b3 o3 ha3 hc3 => ?_); (try (show J _ _ _ (runS _ _ _ _ (⟨_, _, _, _, _, some _⟩ :: _)); (refine j_gyes rfl rfl rfl ?_))); refine j_loadv (M := [Sl 3 a1 c1 (memC m)]) (v := .int .i64 ((xk : Nat) : Int)) rfl rfl (by repeat ((exact .refl))) (hc3 0 _ (by rw [hxk]; rfl)) rfl ?_)
        repeat' (first | (show J _ _ _ (runS _ _ _ _ (⟨_, _, _, _, _, none⟩ :: _)); first | (show J _ _ _ (runS _ _ _ _ (⟨_, .move _, _, _, _, _⟩ :: _)); refine j_move rfl rfl ?_) | (show J _ _ _ (runS _ _ _ _ (⟨_, .binOp _ _ _ _ _, _, _, _, _⟩ :: _)); (first | refine j_add rfl rfl (by omega) rfl ?_ | refine j_bin rfl rfl rfl rfl ?_)) | (show J _ _ _ (runS _ _ _ _ (⟨_, .assign _, _, _, _, _⟩ :: _)); refine j_assign rfl rfl ?_) | (show J _ _ _ (runS _ _ _ _ (⟨_, .pick _ _ _, _, _, _, _⟩ :: _)); ((refine j_pick_f rfl rfl rfl ?_))) | (show J _ _ _ (runS _ _ _ _ (⟨_, .call ⟨.builtin .len, _, _⟩, _, _, _, _⟩ :: _)); ((refine j_len rfl rfl ?_)))) | refine j_nil ?_ | (show J _ _ _ (runS _ _ _ _ (⟨_, _, _, _, _, some _⟩ :: _)); first | refine j_gno_u rfl rfl rfl rfl ?_ | refine j_gyes rfl rfl rfl ?_ | refine j_gsplit_dec rfl rfl (fun h => ?_) (fun h => ?_)) | (show J _ _ _ (Code.wp _ _ _); first | refine j_region ?_ | (show J _ _ _ (Code.wp _ (.cond _ _ _) _); (refine j_false rfl ?_)) | refine j_skip ?_) | refine j_then ?_ | refine j_inb ?_)
        · (refine j_idx (α := Int) (M := [Sl 3 a1 c1 (memC m)]) rfl rfl (by repeat ((exact .refl))) sees_sl rfl i rfl hi2 rfl (fun b3 o3 ha3 hc3 => ?_); (try (show J _ _ _ (runS _ _ _ _ (⟨_, _, _, _, _, some _⟩ :: _)); (refine j_gyes rfl rfl rfl ?_))); refine j_loadv (M := [Sl 3 a1 c1 (memC m)]) (v := .int .i64 ((xi : Nat) : Int)) rfl rfl (by repeat ((exact .refl))) (hc3 0 _ (by rw [hx]; rfl)) rfl ?_)
          repeat' ((show J _ _ _ (runS _ _ _ _ (⟨_, _, _, _, _, some _⟩ :: _)); (refine j_gyes rfl rfl rfl ?_)))
          (refine j_idx (α := Int) (M := Lp) rfl rfl (by repeat (first | exact .refl | refine .drop ?_)) hv rfl xi rfl hxl rfl (fun b3 o3 ha3 hc3 => ?_); (try (show J _ _ _ (runS _ _ _ _ (⟨_, _, _, _, _, some _⟩ :: _)); (refine j_gyes rfl rfl rfl ?_))); refine j_loadv (M := Lp) (v := .int .i64 (mt.getD xi 0)) rfl rfl (by repeat (first | exact .refl | refine .drop ?_)) (hc3 0 _ (by rw [List.getD_eq_getElem?_getD, List.getElem?_eq_getElem hxl]; rfl)) rfl ?_)
          have := hge (by omega)
          repeat' (first | (show J _ _ _ (runS _ _ _ _ (⟨_, _, _, _, _, none⟩ :: _)); first | (show J _ _ _ (runS _ _ _ _ (⟨_, .move _, _, _, _, _⟩ :: _)); refine j_move rfl rfl ?_) | (show J _ _ _ (runS _ _ _ _ (⟨_, .binOp _ _ _ _ _, _, _, _, _⟩ :: _)); (first | refine j_add rfl rfl (by omega) rfl ?_ | refine j_bin rfl rfl rfl rfl ?_)) | (show J _ _ _ (runS _ _ _ _ (⟨_, .assign _, _, _, _, _⟩ :: _)); refine j_assign rfl rfl ?_) | (show J _ _ _ (runS _ _ _ _ (⟨_, .pick _ _ _, _, _, _, _⟩ :: _)); (first | refine j_pick_t rfl rfl rfl ?_ | refine j_pick_f rfl rfl rfl ?_))) | refine j_nil ?_ | (show J _ _ _ (runS _ _ _ _ (⟨_, _, _, _, _, some _⟩ :: _)); (refine j_gyes rfl rfl rfl ?_)) | (show J _ _ _ (Code.wp _ _ _); first | refine j_region ?_ | (show J _ _ _ (Code.wp _ (.cond _ _ _) _); (refine j_dec rfl (fun h => ?_) (fun h => ?_))) | refine j_skip ?_) | refine j_then ?_ | refine j_inb ?_)
          · (rw [show ((((reachL m mt).take k).countP (fun y => decide (mt.getD xi 0 ≤ y)) : Nat) : Int) + 1 = ((((reachL m mt).take (k + 1)).countP (fun y => decide (mt.getD xi 0 ≤ y)) : Nat) : Int) from by rw [hs, decide_eq_true (show mt.getD xi 0 ≤ mt.getD xk 0 by omega)]; rfl]; exact j_round ⟨k + 1, by omega⟩ (by dsimp only; omega) ⟨rfl, rfl, rfl, rfl, rfl, rfl, rfl, trivial⟩ .refl)
          · (rw [show ((reachL m mt).take k).countP (fun y => decide (mt.getD xi 0 ≤ y)) = ((reachL m mt).take (k + 1)).countP (fun y => decide (mt.getD xi 0 ≤ y)) from by rw [hs, decide_eq_false (show ¬ mt.getD xi 0 ≤ mt.getD xk 0 by omega)]; rfl]; exact j_round ⟨k + 1, by omega⟩ (by dsimp only; omega) ⟨rfl, rfl, rfl, rfl, rfl, rfl, rfl, trivial⟩ .refl)
        · exfalso; omega
    · have hkk : k = (memC m).length := by omega
      subst hkk
      have hcl : condL (reachL m mt) (mt.getD xi 0) := by
        unfold condL
        rw [reachL_len]
        rw [ht] at *
        omega
      (refine j_idx (α := Int) (M := [Sl 3 a1 c1 (memC m)]) rfl rfl (by repeat ((exact .refl))) sees_sl rfl i rfl hi2 rfl (fun b3 o3 ha3 hc3 => ?_); (try (show J _ _ _ (runS _ _ _ _ (⟨_, _, _, _, _, some _⟩ :: _)); (refine j_gyes rfl rfl rfl ?_))); refine j_loadv (M := [Sl 3 a1 c1 (memC m)]) (v := .int .i64 ((xi : Nat) : Int)) rfl rfl (by repeat ((exact .refl))) (hc3 0 _ (by rw [hx]; rfl)) rfl ?_)
      repeat' ((show J _ _ _ (runS _ _ _ _ (⟨_, _, _, _, _, some _⟩ :: _)); (refine j_gyes rfl rfl rfl ?_)))
      (refine j_idx (α := Int) (M := Lp) rfl rfl (by repeat (first | exact .refl | refine .drop ?_)) hv rfl xi rfl hxl rfl (fun b3 o3 ha3 hc3 => ?_); (try (show J _ _ _ (runS _ _ _ _ (⟨_, _, _, _, _, some _⟩ :: _)); (refine j_gyes rfl rfl rfl ?_))); refine j_loadv (M := Lp) (v := .int .i64 (mt.getD xi 0)) rfl rfl (by repeat (first | exact .refl | refine .drop ?_)) (hc3 0 _ (by rw [List.getD_eq_getElem?_getD, List.getElem?_eq_getElem hxl]; rfl)) rfl ?_)
      repeat' (first | (show J _ _ _ (runS _ _ _ _ (⟨_, _, _, _, _, none⟩ :: _)); first | (show J _ _ _ (runS _ _ _ _ (⟨_, .move _, _, _, _, _⟩ :: _)); refine j_move rfl rfl ?_) | (show J _ _ _ (runS _ _ _ _ (⟨_, .binOp _ _ _ _ _, _, _, _, _⟩ :: _)); (first | refine j_add rfl rfl (by omega) rfl ?_ | refine j_bin rfl rfl rfl rfl ?_)) | (show J _ _ _ (runS _ _ _ _ (⟨_, .assign _, _, _, _, _⟩ :: _)); refine j_assign rfl rfl ?_) | (show J _ _ _ (runS _ _ _ _ (⟨_, .pick _ _ _, _, _, _, _⟩ :: _)); ((refine j_pick_t rfl rfl rfl ?_)))) | refine j_nil ?_ | (show J _ _ _ (runS _ _ _ _ (⟨_, _, _, _, _, some _⟩ :: _)); (refine j_gyes rfl rfl rfl ?_)) | (show J _ _ _ (Code.wp _ _ _); first | refine j_region ?_ | (show J _ _ _ (Code.wp _ (.cond _ _ _) _); (refine j_dec rfl (fun h => ?_) (fun h => ?_))) | refine j_skip ?_) | refine j_then ?_ | refine j_inb ?_)
      · (refine j_idx (α := Int) (M := [Sl 3 a1 c1 (memC m)]) rfl rfl (by repeat ((exact .refl))) sees_sl rfl i rfl hi2 rfl (fun b3 o3 ha3 hc3 => ?_); (try fail); refine j_loadv (M := [Sl 3 a1 c1 (memC m)]) (v := .int .i64 ((xi : Nat) : Int)) rfl rfl (by repeat ((exact .refl))) (hc3 0 _ (by rw [hx]; rfl)) rfl ?_)
        repeat' (fail)
        (refine j_idx (α := Int) (M := Lp) rfl rfl (by repeat (first | exact .refl | refine .drop ?_)) hv rfl xi rfl hxl rfl (fun b3 o3 ha3 hc3 => ?_); (try fail); refine j_loadv (M := Lp) (v := .int .i64 (mt.getD xi 0)) rfl rfl (by repeat (first | exact .refl | refine .drop ?_)) (hc3 0 _ (by rw [List.getD_eq_getElem?_getD, List.getElem?_eq_getElem hxl]; rfl)) rfl ?_)
        repeat' (first | (show J _ _ _ (runS _ _ _ _ (⟨_, _, _, _, _, none⟩ :: _)); first | (show J _ _ _ (runS _ _ _ _ (⟨_, .move _, _, _, _, _⟩ :: _)); refine j_move rfl rfl ?_) | (show J _ _ _ (runS _ _ _ _ (⟨_, .binOp _ _ _ _ _, _, _, _, _⟩ :: _)); ((refine j_add rfl rfl (by omega) rfl ?_))) | (show J _ _ _ (runS _ _ _ _ (⟨_, .assign _, _, _, _, _⟩ :: _)); refine j_assign rfl rfl ?_)) | refine j_nil ?_ | (show J _ _ _ (Code.wp _ _ _); (refine j_region ?_)) | refine j_then ?_ | refine j_inb ?_)
        refine j_round ⟨(i + 1, mt.getD xi 0), hi2, by dsimp only; omega, fun j h hj hlt hc => ?_, .inr hcl⟩ (by dsimp only; omega) ⟨rfl, rfl, rfl, rfl, rfl, trivial⟩ .refl
        by_cases e : j = i
        · subst e
          rw [hx, Int.toNat_natCast]
          exact Int.le_refl _
        · have := hbu j h (by dsimp only at hj; omega) hlt hc
          dsimp only; omega
      · refine j_round ⟨(i + 1, best), hi2, hb0, fun j h hj hlt hc => ?_, hbr⟩ (by dsimp only; omega) ⟨rfl, rfl, rfl, rfl, rfl, trivial⟩ .refl
        by_cases e : j = i
        · subst e
          rw [hx, Int.toNat_natCast]
          dsimp only; omega
        · exact hbu j h (by dsimp only at hj; omega) hlt hc
    · have hkk : k = (memC m).length := by omega
      subst hkk
      have hcl : ¬ condL (reachL m mt) (mt.getD xi 0) := by
        unfold condL
        rw [reachL_len]
        rw [ht] at *
        omega
      refine j_round ⟨(i + 1, best), hi2, hb0, fun j h hj hlt hc => ?_, hbr⟩ (by dsimp only; omega) ⟨rfl, rfl, rfl, rfl, rfl, trivial⟩ .refl
      by_cases e : j = i
      · subst e
        rw [hx, Int.toNat_natCast] at hc
        exact absurd hc hcl
      · exact hbu j h (by dsimp only at hj; omega) hlt hc
  · have hil : i = (memC m).length := by omega
    subst hil
    have e := best_is (m := m) (mt := mt) hb0 (fun j h => hbu j h h) hbr
    exact j_ret1 (M := Lp) rfl rfl (by repeat (first | exact .refl | refine .drop ?_)) ⟨by rw [e], rfl⟩
end Go.Proofs.Ytnmfpgfgjjmfhaa
