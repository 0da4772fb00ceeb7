/- Bytes that become strings; slices of slices. -/
import Derived.Test.YtnmfpgfgjjmfhaaSv
import Derived.Test.YtnmfpgfgjjmfhaaSr
import Derived.Laws.BytesArg
set_option linter.unusedVariables false
set_option linter.unusedSimpArgs false
namespace Go.Proofs.Ytnmfpgfgjjmfhaa
open Go

/-- a byte, as its cell stands -/
structure U8 where
  n : Int
instance : Enc U8 := ⟨fun x => [.int .u8 x.n], 1, fun _ => rfl, by decide, fun x u hu => by simp at hu; subst hu; rfl⟩
def U8Ok (_ : World) (x : U8) : Prop := 0 ≤ x.n ∧ x.n ≤ 255

/-- a slice's header, as its cell stands -/
structure Hd where
  a : Option Addr
  n : Nat
  c : Nat
instance : Enc Hd := ⟨fun x => [.slice x.a x.n x.c], 1, fun _ => rfl, by decide, fun x u hu => by simp at hu; subst hu; rfl⟩

section
variable {P : Program} {EE : EX} {n : Nat} {fm : Fm} {L : List HP} {ops : Array Oper} {K : Act → World → Prop} {rest : List Oper} {ty : TypeId} {pos : String} {after : Array Edge} {d : Tmp} 

theorem j_bytes {s t e : TypeId} {n1 n2 n3 : Nat} {x : Operand} {a0 : Option Addr} {len cap : Nat} {ls : List U8} {M G : List HP} [hs : TyC P s (.slice e) n1] [he : TyC P e (.int .u8) n3] [ht : TyC P t .string n2]
    (hx : ev fm x = some (.slice a0 len cap)) (hpk : Pk L (M ++ G)) (hv : Sees M (fun w => Vw w a0 ls)) (hl : len = ls.length) (hn : a0 = none → ls = []) (hd : Nat.blt d n = true)
    (k : J n ((d, .string (strOfNums (ls.map (·.n)))) :: fm) L (runS P EE ops K rest)) : J n fm L (runS P EE ops K (⟨some d, .convert s t x, ty, pos, after, none⟩ :: rest)) := by
  refine j_read (by simp only [cls, hs.und, ht.und]; exact ⟨by simp, by simp⟩) (fun a w hr hw => ?_) hd k
  have hs' := hv w (hw.pk hpk).append_left
  have key : (convert s t (.slice a0 len cap)).run P w = .ok (.string (strOfNums (ls.map (·.n)))) w := by
    rcases hs'.2 with h0 | ⟨b, o, ha, hc⟩
    · have h0' : ls = [] := by simpa using h0
      subst h0' hl
      cases a0 with
      | none => rw [run_convert_bytes_nil w s e hs.und he.und _ _ t ht.und]; rfl
      | some ad =>
        obtain ⟨b, o, sp⟩ := ad
        rw [run_convert_bytes_string w s t e _ _ cap hs.und he.und ht.und]
        have := run_bytesToString (P := P) w ⟨b, o, sp⟩ 0 cap [] (by simpa using run_loadCells_list (P := P) w ⟨b, o, sp⟩ [] (fun j v hj => by simp at hj))
        exact this
    · subst ha
      refine run_convert_bytes_arg w s e hs.und he.und b o len cap _ (by simp [hl]) (fun i hi => ?_) t ht.und
      have hi' : i < ls.length := by omega
      have := hc i (Enc.enc ls[i]) (by simp [hi']) 0 (.int .u8 ls[i].n) rfl
      rw [show o + i * Enc.sz U8 + 0 = o + i from by show o + i * 1 + 0 = _; omega] at this
      rw [this]
      simp [List.getD, hi']
  simp only [execOp, hr.ev hx, Sem.run_bind, key, Result.andThen_ok, Sem.run_pure]

end
end Go.Proofs.Ytnmfpgfgjjmfhaa
