/- What the walks of the laws on the net share. -/
import Derived.Test.YtidamnmfobblaaaNet7
set_option linter.unusedVariables false
set_option linter.unusedSimpArgs false
set_option maxRecDepth 100000
namespace Go.Proofs.Ytidamnmfobblaaa
open Go
attribute [local irreducible] Exit.then Exit.inBlock Code.wp runS bodyPost postF J runT cutQ cutR Tr Sat blk Sl Old Star Ex Pu

theorem act_l {b o : Nat} {x : Act} {M : List HP} {w : World} {q : Nat} {v : Value} (hc : ∀ (q : Nat) (v : Value), (Enc.enc x)[q]? = some v → Sees M fun w => w.cell? ⟨b, o + q, none⟩ = some v) (hw : Sat M w) (hq : (Enc.enc x.l)[q]? = some v) : w.cell? ⟨b, o + 2 + q, none⟩ = some v := by
  rw [Nat.add_assoc]
  exact hc (2 + q) v (by rw [Nat.add_comm]; exact hq) w hw

theorem RNS.ok {ns : NetS} {rs : RS} (h : RNS ns rs) : ∀ l ∈ rs.l, okPlace l.f ∧ okPlace l.t := by obtain ⟨rfl, h2, h3⟩ := h; exact h2
theorem RNS.sd {ns : NetS} {rs : RS} (h : RNS ns rs) : rs.sd.length = 32 := by obtain ⟨rfl, h2, h3⟩ := h; exact bits_len _
theorem RNS.ll {ns : NetS} {rs : RS} (h : RNS ns rs) : rs.l.length ≤ 100000 := by obtain ⟨rfl, h2, h3⟩ := h; exact Nat.le_trans h3 (by decide)
theorem RNS.nl {ns : NetS} {rs : RS} (h : RNS ns rs) : ns.l.length ≤ 100000 := by obtain ⟨rfl, h2, h3⟩ := h; exact Nat.le_trans h3 (by decide)

theorem RNS.nl' {ns : NetS} {rs : RS} (h : RNS ns rs) : ns.l.length ≤ 1000000 := Nat.le_trans h.nl (by decide)

theorem RNS.eqL {ns : NetS} {rs : RS} (h : RNS ns rs) : ns.l = rs.l := by obtain ⟨rfl, h2, h3⟩ := h; rfl

def NInv (ns : NetS) : Prop := NetOk ns ∧ ns.l.length ≤ 400
theorem NInv.r {ns : NetS} (h : NInv ns) : RNS ns ⟨ns.l, bits ns.sides⟩ := ⟨rfl, h.1, h.2⟩
theorem NInv.send {ns : NetS} (h : NInv ns) (l : Ltr) : NInv (sendN ns l) := (h.r.send l).2.2
theorem NInv.drop {ns : NetS} (h : NInv ns) (k : Int) : NInv (dropN ns k) := (h.r.drop k).2.2
theorem NInv.copy {ns : NetS} (h : NInv ns) (k : Int) : NInv (copyN ns k) := (h.r.copy k).2.2
theorem NInv.split {ns : NetS} (h : NInv ns) (s : Int) : NInv ⟨ns.l, s⟩ := (h.r.split s).2
theorem NInv.nl {ns : NetS} (h : NInv ns) : ns.l.length ≤ 100000 := Nat.le_trans h.2 (by decide)
theorem NInv.new : NInv ⟨[], 0⟩ := ⟨by intro l hl; simp at hl, by simp⟩

theorem vbf {p : Prop} [Decidable p] (h : ¬ p) : Value.bool false = Value.bool (decide p) := by simp [h]
theorem vbt {p : Prop} [Decidable p] (h : p) : Value.bool (decide p) = .bool true := by simp [h]
theorem sendCases (ns : NetS) (x : Ltr) (h : ns.l.length ≤ 400) :
    ((okPlace x.f ∧ okPlace x.t) ∧ ns.l.length < 400 ∧ sendE ns x = 0 ∧ (sendN ns x).l.length = ns.l.length + 1) ∨
    (¬ (okPlace x.f ∧ okPlace x.t) ∧ sendE ns x = 1 ∧ sendN ns x = ns) ∨
    ((okPlace x.f ∧ okPlace x.t) ∧ ns.l.length = 400 ∧ sendE ns x = 40 ∧ sendN ns x = ns) := by
  unfold sendE sendN
  by_cases h1 : okPlace x.f ∧ okPlace x.t
  · by_cases h2 : ns.l.length < 400
    · exact .inl ⟨h1, h2, by simp [h1, h2], by simp [h1, h2]⟩
    · exact .inr (.inr ⟨h1, by omega, by simp [h1, h2], by simp [h2]⟩)
  · refine .inr (.inl ⟨h1, by simp [h1], ?_⟩)
    rw [if_neg (fun h => h1 ⟨h.1, h.2.1⟩)]

theorem sendE0 {ns : NetS} {l : Ltr} (h : sendE ns l = 0) : (sendN ns l).l = ns.l ++ [l] := by
  unfold sendE at h
  unfold sendN
  by_cases h1 : okPlace l.f ∧ okPlace l.t
  · by_cases h2 : ns.l.length < 400
    · simp [h1, h2]
    · simp [h1, h2] at h
  · simp [h1] at h
theorem sendE1 {ns : NetS} {l : Ltr} (h : ¬ sendE ns l = 0) : sendN ns l = ns := by
  unfold sendE at h
  unfold sendN
  by_cases h1 : okPlace l.f ∧ okPlace l.t
  · by_cases h2 : ns.l.length < 400
    · simp [h1, h2] at h
    · simp [h2]
  · rw [if_neg (fun h => h1 ⟨h.1, h.2.1⟩)]
theorem copyE0 {ns : NetS} {k : Int} (h : copyE ns k = 0) : ∃ hk : 0 ≤ k ∧ k < ns.l.length, (copyN ns k).l = ns.l ++ [ns.l[k.toNat]'(by omega)] := by
  unfold copyE at h
  unfold copyN
  by_cases hk : 0 ≤ k ∧ k < ns.l.length
  · rw [dif_pos hk] at h
    exact ⟨hk, by rw [dif_pos hk]; exact sendE0 h⟩
  · rw [dif_neg hk] at h
    simp at h
theorem copyE1 {ns : NetS} {k : Int} (h : ¬ copyE ns k = 0) : copyN ns k = ns := by
  unfold copyE at h
  unfold copyN
  by_cases hk : 0 ≤ k ∧ k < ns.l.length
  · rw [dif_pos hk] at h
    rw [dif_pos hk]
    exact sendE1 h
  · rw [dif_neg hk]

end Go.Proofs.Ytidamnmfobblaaa
