/- Strings to bytes. -/
import Derived.Test.YtnmfpgfgjjmfhaaSc
import Derived.Laws.IdiomStrings
set_option linter.unusedVariables false
set_option linter.unusedSimpArgs false
namespace Go.Proofs.Ytnmfpgfgjjmfhaa
open Go

section
variable {P : Program} {EE : EX} {n : Nat} {fm : Fm} {L : List HP} {ops : Array Oper} {K : Act → World → Prop} {rest : List Oper} {ty : TypeId} {pos : String} {after : Array Edge} {d : Tmp}

theorem j_bytesV {s t e : TypeId} {n1 n2 n3 : Nat} {x : Operand} {a0 : Option Addr} {len cap : Nat} {ls : List UInt8} {M G : List HP} [hs : TyC P s (.slice e) n1] [he : TyC P e (.int .u8) n3] [ht : TyC P t .string n2]
    (hx : ev fm x = some (.slice a0 len cap)) (hpk : Pk L (M ++ G)) (hv : Sees M (fun w => Vw w a0 ls)) (hl : len = ls.length) (hd : Nat.blt d n = true)
    (k : J n ((d, .string ⟨ls.toArray⟩) :: fm) L (runS P EE ops K rest)) : J n fm L (runS P EE ops K (⟨some d, .convert s t x, ty, pos, after, none⟩ :: rest)) := by
  have hn : Sees M (fun w => a0 = none → ls = []) := fun w hw e => by
    have h1 := hv w hw
    rcases h1.2 with h0 | ⟨b, o, h1, _⟩
    · simpa using h0
    · rw [h1] at e; cases e
  exact j_sees hpk hn (fun w h => h) (fun hn => j_bytesU hx hpk hv hl hn hd k)
theorem j_neg {t : TypeId} {x : Operand} {ki : IntKind} {a0 : Int} (hx : ev fm x = some (.int ki a0)) (hd : Nat.blt d n = true)
    (k : J n ((d, .int ki (ki.wrap (-a0))) :: fm) L (runS P EE ops K rest)) : J n fm L (runS P EE ops K (⟨some d, .unOp .neg t x, ty, pos, after, none⟩ :: rest)) :=
  j_pure (by first | (simp [cls]; done) | (simp only [cls]; split <;> simp; done) | (simp only [cls]; split <;> (try split) <;> simp)) (fun a w hr => by simp [execOp, hr.ev hx, Op.unary, Op.intArith]) hd k

/-- a string's bytes, as a new row holds them -/
def byteRow (s : List UInt8) (junk : List Value) : List Value := s.map (fun b => .int .u8 (b.toNat : Nat)) ++ junk
theorem sees_row {b : Nat} {T : TypeId} {s : List UInt8} {junk : List Value} : Sees [blk b T (byteRow s junk)] (fun w => Vw w (some ⟨b, 0, none⟩) s) := Sees.one fun w S h => by
  refine ⟨map_enc_len _, .inr ⟨b, 0, rfl, fun i x hx q v hq => ?_⟩⟩
  obtain ⟨_, fz, hh, _⟩ := h
  simp only [List.getElem?_map, Option.map_eq_some_iff] at hx
  obtain ⟨y, hy, rfl⟩ := hx
  have hq0 : q = 0 := by
    have := (List.getElem?_eq_some_iff.1 hq).1
    have e : (Enc.enc y).length = 1 := rfl
    omega
  subst hq0
  obtain rfl : Value.int .u8 (y.toNat : Nat) = v := by simpa [Enc.enc] using hq
  have hi := (List.getElem?_eq_some_iff.1 hy).1
  have hy2 := (List.getElem?_eq_some_iff.1 hy).2
  have e1 : (byteRow s junk)[i]? = some (.int .u8 (y.toNat : Nat)) := by
    unfold byteRow
    rw [List.getElem?_append_left (by simpa using hi), List.getElem?_map, hy]
    rfl
  show w.cell? ⟨b, 0 + i * 1 + 0, none⟩ = _
  rw [show 0 + i * 1 + 0 = i from by omega]
  unfold World.cell?
  simp [hh, e1]
theorem j_strBytes {s t e : TypeId} {n1 n2 n3 : Nat} {x : Operand} {str : ByteArray} [hs : TyC P s .string n1] [ht : TyC P t (.slice e) n2] [he : TyC P e (.int .u8) n3] (hx : ev fm x = some (.string str)) (hd : Nat.blt d n = true)
    (k : ∀ b c junk, str.data.toList.length ≤ c → J n ((d, .slice (some ⟨b, 0, none⟩) str.data.toList.length c) :: fm) (blk b e (byteRow str.data.toList junk) :: L) (runS P EE ops K rest)) : J n fm L (runS P EE ops K (⟨some d, .convert s t x, ty, pos, after, none⟩ :: rest)) := by
  refine j_write (L' := fun v M => ∃ b c junk, str.data.toList.length ≤ c ∧ v = .slice (some ⟨b, 0, none⟩) str.data.toList.length c ∧ M = blk b e (byteRow str.data.toList junk) :: L) (by simp only [cls, hs.und, ht.und]) (fun a w hr hw => ?_) hd (fun v M h => ?_)
  · obtain ⟨g, hg⟩ : ∃ g, g = grownCap w str.size 0 e := ⟨_, rfl⟩
    have hrun := run_bytes_of_string (P := P) w s t e str hs.und ht.und he.und
    rw [← hg] at hrun
    have hlen : str.data.toList.length = str.size := Array.length_toList
    have hge : str.size ≤ g := by rw [hg]; exact grownCap_ge w str.size 0 e
    refine ⟨.slice (some ⟨w.heap.size, 0, none⟩) str.data.toList.length g, w.drew.alloc (.cells (bytesRow str g) e ((bytesRow str g).size, (bytesRow str g).size + 1)), blk w.heap.size e (byteRow str.data.toList (List.replicate (g - str.size) (.int .u8 0))) :: L, ?_, ⟨_, g, _, by rw [hlen]; exact hge, rfl, rfl⟩, ?_⟩
    · rw [hlen]; simp only [execOp, hr.ev hx, Sem.run_bind, hrun, Result.andThen_ok, Sem.run_pure]
    · have hrow : (byteRow str.data.toList (List.replicate (g - str.size) (.int .u8 0))).toArray = bytesRow str g := by
        unfold byteRow bytesRow
        apply Array.toList_inj.1
        simp
      refine hw.new (A' := blk w.heap.size e _) ⟨Nat.le_refl _, ((bytesRow str g).size, (bytesRow str g).size + 1), ?_, fun i hi => ?_⟩ (fun b hb => heap_alloc_old w.drew _ hb) ⟨rfl, rfl, rfl⟩
      · rw [hrow]; exact heap_alloc_new w.drew _
      · have : i < (bytesRow str g).size := by rw [← hrow]; simpa using hi
        simp; omega
  · obtain ⟨b, c, junk, hc, rfl, rfl⟩ := h
    exact k b c junk hc
end
end Go.Proofs.Ytnmfpgfgjjmfhaa
