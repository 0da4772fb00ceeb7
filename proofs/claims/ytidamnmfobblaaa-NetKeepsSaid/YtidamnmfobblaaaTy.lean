/- The seat's facts on types and functions, as instances (by program). -/
import Derived.Test.YtidamnmfobblaaaSy
import Derived.Test.YtidamnmfobblaaaProg
namespace Go.Proofs.Ytidamnmfobblaaa
open Go
instance : Mixed Try.prog := ⟨by kernel_rfl⟩
instance : TyC Try.prog 2 (.int .i64) 1 := ⟨by kernel_rfl, by kernel_rfl⟩
instance : TyZ Try.prog 2 (.int .i64 0) 8 := ⟨by kernel_rfl, by kernel_rfl⟩
instance : TyC Try.prog 3 (.int .i64) 1 := ⟨by kernel_rfl, by kernel_rfl⟩
instance : TyZ Try.prog 3 (.int .i64 0) 8 := ⟨by kernel_rfl, by kernel_rfl⟩
instance : TyC Try.prog 4 .bool 1 := ⟨by kernel_rfl, by kernel_rfl⟩
instance : TyZ Try.prog 4 (.bool false) 1 := ⟨by kernel_rfl, by kernel_rfl⟩
instance : TyC Try.prog 5 (.int .u8) 1 := ⟨by kernel_rfl, by kernel_rfl⟩
instance : TyZ Try.prog 5 (.int .u8 0) 1 := ⟨by kernel_rfl, by kernel_rfl⟩
instance : TyC Try.prog 6 (.int .u8) 1 := ⟨by kernel_rfl, by kernel_rfl⟩
instance : TyZ Try.prog 6 (.int .u8 0) 1 := ⟨by kernel_rfl, by kernel_rfl⟩
instance : TyC Try.prog 7 (.struct #[⟨"x", 2, 0, false, "", "runtime", 0⟩, ⟨"y", 3, 1, false, "", "runtime", 8⟩, ⟨"signed", 4, 2, false, "", "runtime", 16⟩, ⟨"code", 6, 3, false, "", "runtime", 17⟩]) 4 := ⟨by kernel_rfl, by kernel_rfl⟩
instance : Lay Try.prog 7 [(0, 1), (1, 1), (2, 1), (3, 1)] := ⟨_, TyC.und (d := (.struct #[⟨"x", 2, 0, false, "", "runtime", 0⟩, ⟨"y", 3, 1, false, "", "runtime", 8⟩, ⟨"signed", 4, 2, false, "", "runtime", 16⟩, ⟨"code", 6, 3, false, "", "runtime", 17⟩])) (k := 4), by kernel_rfl⟩
instance : Fld Try.prog 7 0 0 := ⟨by kernel_rfl⟩
instance : Fld Try.prog 7 1 1 := ⟨by kernel_rfl⟩
instance : Fld Try.prog 7 2 2 := ⟨by kernel_rfl⟩
instance : Fld Try.prog 7 3 3 := ⟨by kernel_rfl⟩
instance : TyZ Try.prog 7 (.agg #[.int .i64 0, .int .i64 0, .bool false, .int .u8 0]) 24 := ⟨by kernel_rfl, by kernel_rfl⟩
instance : TyC Try.prog 8 (.struct #[⟨"x", 2, 0, false, "", "runtime", 0⟩, ⟨"y", 3, 1, false, "", "runtime", 8⟩, ⟨"signed", 4, 2, false, "", "runtime", 16⟩, ⟨"code", 6, 3, false, "", "runtime", 17⟩]) 4 := ⟨by kernel_rfl, by kernel_rfl⟩
instance : Lay Try.prog 8 [(0, 1), (1, 1), (2, 1), (3, 1)] := ⟨_, TyC.und (d := (.struct #[⟨"x", 2, 0, false, "", "runtime", 0⟩, ⟨"y", 3, 1, false, "", "runtime", 8⟩, ⟨"signed", 4, 2, false, "", "runtime", 16⟩, ⟨"code", 6, 3, false, "", "runtime", 17⟩])) (k := 4), by kernel_rfl⟩
instance : Fld Try.prog 8 0 0 := ⟨by kernel_rfl⟩
instance : Fld Try.prog 8 1 1 := ⟨by kernel_rfl⟩
instance : Fld Try.prog 8 2 2 := ⟨by kernel_rfl⟩
instance : Fld Try.prog 8 3 3 := ⟨by kernel_rfl⟩
instance : TyZ Try.prog 8 (.agg #[.int .i64 0, .int .i64 0, .bool false, .int .u8 0]) 24 := ⟨by kernel_rfl, by kernel_rfl⟩
instance : TyC Try.prog 9 .string 1 := ⟨by kernel_rfl, by kernel_rfl⟩
instance : TyZ Try.prog 9 (.string .empty) 16 := ⟨by kernel_rfl, by kernel_rfl⟩
instance : TyC Try.prog 10 .string 1 := ⟨by kernel_rfl, by kernel_rfl⟩
instance : TyZ Try.prog 10 (.string .empty) 16 := ⟨by kernel_rfl, by kernel_rfl⟩
instance : TyC Try.prog 11 .string 1 := ⟨by kernel_rfl, by kernel_rfl⟩
instance : TyZ Try.prog 11 (.string .empty) 16 := ⟨by kernel_rfl, by kernel_rfl⟩
instance : TyC Try.prog 12 (.int .u64) 1 := ⟨by kernel_rfl, by kernel_rfl⟩
instance : TyZ Try.prog 12 (.int .u64 0) 8 := ⟨by kernel_rfl, by kernel_rfl⟩
instance : TyC Try.prog 13 (.struct #[⟨"msg", 9, 0, false, "", "runtime", 0⟩, ⟨"addr", 12, 1, false, "", "runtime", 16⟩]) 2 := ⟨by kernel_rfl, by kernel_rfl⟩
instance : Lay Try.prog 13 [(0, 1), (1, 1)] := ⟨_, TyC.und (d := (.struct #[⟨"msg", 9, 0, false, "", "runtime", 0⟩, ⟨"addr", 12, 1, false, "", "runtime", 16⟩])) (k := 2), by kernel_rfl⟩
instance : Fld Try.prog 13 0 0 := ⟨by kernel_rfl⟩
instance : Fld Try.prog 13 1 1 := ⟨by kernel_rfl⟩
instance : TyZ Try.prog 13 (.agg #[.string .empty, .int .u64 0]) 24 := ⟨by kernel_rfl, by kernel_rfl⟩
instance : TyC Try.prog 14 (.struct #[⟨"msg", 9, 0, false, "", "runtime", 0⟩, ⟨"addr", 12, 1, false, "", "runtime", 16⟩]) 2 := ⟨by kernel_rfl, by kernel_rfl⟩
instance : Lay Try.prog 14 [(0, 1), (1, 1)] := ⟨_, TyC.und (d := (.struct #[⟨"msg", 9, 0, false, "", "runtime", 0⟩, ⟨"addr", 12, 1, false, "", "runtime", 16⟩])) (k := 2), by kernel_rfl⟩
instance : Fld Try.prog 14 0 0 := ⟨by kernel_rfl⟩
instance : Fld Try.prog 14 1 1 := ⟨by kernel_rfl⟩
instance : TyZ Try.prog 14 (.agg #[.string .empty, .int .u64 0]) 24 := ⟨by kernel_rfl, by kernel_rfl⟩
instance : TyC Try.prog 15 (.pointer 104) 1 := ⟨by kernel_rfl, by kernel_rfl⟩
instance : TyZ Try.prog 15 (.pointer none) 8 := ⟨by kernel_rfl, by kernel_rfl⟩
instance : TyC Try.prog 16 (.pointer 107) 1 := ⟨by kernel_rfl, by kernel_rfl⟩
instance : TyZ Try.prog 16 (.pointer none) 8 := ⟨by kernel_rfl, by kernel_rfl⟩
instance : TyC Try.prog 17 (.pointer 117) 1 := ⟨by kernel_rfl, by kernel_rfl⟩
instance : TyZ Try.prog 17 (.pointer none) 8 := ⟨by kernel_rfl, by kernel_rfl⟩
instance : TyC Try.prog 18 (.struct #[⟨"typ", 17, 0, false, "", "internal/runtime/maps", 0⟩]) 1 := ⟨by kernel_rfl, by kernel_rfl⟩
instance : Lay Try.prog 18 [(0, 1)] := ⟨_, TyC.und (d := (.struct #[⟨"typ", 17, 0, false, "", "internal/runtime/maps", 0⟩])) (k := 1), by kernel_rfl⟩
instance : Fld Try.prog 18 0 0 := ⟨by kernel_rfl⟩
instance : TyZ Try.prog 18 (.agg #[.pointer none]) 8 := ⟨by kernel_rfl, by kernel_rfl⟩
instance : TyC Try.prog 19 (.struct #[⟨"typ", 17, 0, false, "", "internal/runtime/maps", 0⟩]) 1 := ⟨by kernel_rfl, by kernel_rfl⟩
instance : Lay Try.prog 19 [(0, 1)] := ⟨_, TyC.und (d := (.struct #[⟨"typ", 17, 0, false, "", "internal/runtime/maps", 0⟩])) (k := 1), by kernel_rfl⟩
instance : Fld Try.prog 19 0 0 := ⟨by kernel_rfl⟩
instance : TyZ Try.prog 19 (.agg #[.pointer none]) 8 := ⟨by kernel_rfl, by kernel_rfl⟩
instance : TyC Try.prog 21 (.int .i32) 1 := ⟨by kernel_rfl, by kernel_rfl⟩
instance : TyZ Try.prog 21 (.int .i32 0) 4 := ⟨by kernel_rfl, by kernel_rfl⟩
instance : TyC Try.prog 22 (.slice 34) 1 := ⟨by kernel_rfl, by kernel_rfl⟩
instance : TyZ Try.prog 22 (.slice none 0 0) 24 := ⟨by kernel_rfl, by kernel_rfl⟩
instance : TyC Try.prog 24 (.pointer 95) 1 := ⟨by kernel_rfl, by kernel_rfl⟩
instance : TyZ Try.prog 24 (.pointer none) 8 := ⟨by kernel_rfl, by kernel_rfl⟩
instance : TyC Try.prog 26 (.pointer 30) 1 := ⟨by kernel_rfl, by kernel_rfl⟩
instance : TyZ Try.prog 26 (.pointer none) 8 := ⟨by kernel_rfl, by kernel_rfl⟩
instance : TyC Try.prog 27 (.slice 32) 1 := ⟨by kernel_rfl, by kernel_rfl⟩
instance : TyZ Try.prog 27 (.slice none 0 0) 24 := ⟨by kernel_rfl, by kernel_rfl⟩
instance : TyC Try.prog 28 (.array 32 4) 32 := ⟨by kernel_rfl, by kernel_rfl⟩
instance : TyZ Try.prog 28 (.agg #[.bool false, .bool false, .bool false, .bool false, .bool false, .bool false, .bool false, .bool false, .bool false, .bool false, .bool false, .bool false, .bool false, .bool false, .bool false, .bool false, .bool false, .bool false, .bool false, .bool false, .bool false, .bool false, .bool false, .bool false, .bool false, .bool false, .bool false, .bool false, .bool false, .bool false, .bool false, .bool false]) 32 := ⟨by kernel_rfl, by kernel_rfl⟩
instance : TyC Try.prog 29 (.struct #[⟨"L", 27, 0, false, "", "", 0⟩, ⟨"Sides", 28, 1, false, "", "", 24⟩]) 33 := ⟨by kernel_rfl, by kernel_rfl⟩
instance : Lay Try.prog 29 [(0, 1), (1, 32)] := ⟨_, TyC.und (d := (.struct #[⟨"L", 27, 0, false, "", "", 0⟩, ⟨"Sides", 28, 1, false, "", "", 24⟩])) (k := 33), by kernel_rfl⟩
instance : Fld Try.prog 29 0 0 := ⟨by kernel_rfl⟩
instance : Fld Try.prog 29 1 1 := ⟨by kernel_rfl⟩
instance : TyZ Try.prog 29 (.agg #[.slice none 0 0, .bool false, .bool false, .bool false, .bool false, .bool false, .bool false, .bool false, .bool false, .bool false, .bool false, .bool false, .bool false, .bool false, .bool false, .bool false, .bool false, .bool false, .bool false, .bool false, .bool false, .bool false, .bool false, .bool false, .bool false, .bool false, .bool false, .bool false, .bool false, .bool false, .bool false, .bool false, .bool false]) 56 := ⟨by kernel_rfl, by kernel_rfl⟩
instance : TyC Try.prog 30 (.struct #[⟨"L", 27, 0, false, "", "", 0⟩, ⟨"Sides", 28, 1, false, "", "", 24⟩]) 33 := ⟨by kernel_rfl, by kernel_rfl⟩
instance : Lay Try.prog 30 [(0, 1), (1, 32)] := ⟨_, TyC.und (d := (.struct #[⟨"L", 27, 0, false, "", "", 0⟩, ⟨"Sides", 28, 1, false, "", "", 24⟩])) (k := 33), by kernel_rfl⟩
instance : Fld Try.prog 30 0 0 := ⟨by kernel_rfl⟩
instance : Fld Try.prog 30 1 1 := ⟨by kernel_rfl⟩
instance : TyZ Try.prog 30 (.agg #[.slice none 0 0, .bool false, .bool false, .bool false, .bool false, .bool false, .bool false, .bool false, .bool false, .bool false, .bool false, .bool false, .bool false, .bool false, .bool false, .bool false, .bool false, .bool false, .bool false, .bool false, .bool false, .bool false, .bool false, .bool false, .bool false, .bool false, .bool false, .bool false, .bool false, .bool false, .bool false, .bool false, .bool false]) 56 := ⟨by kernel_rfl, by kernel_rfl⟩
instance : TyC Try.prog 31 (.struct #[⟨"From", 3, 0, false, "", "", 0⟩, ⟨"To", 3, 1, false, "", "", 8⟩, ⟨"Body", 9, 2, false, "", "", 16⟩]) 3 := ⟨by kernel_rfl, by kernel_rfl⟩
instance : Lay Try.prog 31 [(0, 1), (1, 1), (2, 1)] := ⟨_, TyC.und (d := (.struct #[⟨"From", 3, 0, false, "", "", 0⟩, ⟨"To", 3, 1, false, "", "", 8⟩, ⟨"Body", 9, 2, false, "", "", 16⟩])) (k := 3), by kernel_rfl⟩
instance : Fld Try.prog 31 0 0 := ⟨by kernel_rfl⟩
instance : Fld Try.prog 31 1 1 := ⟨by kernel_rfl⟩
instance : Fld Try.prog 31 2 2 := ⟨by kernel_rfl⟩
instance : TyZ Try.prog 31 (.agg #[.int .i64 0, .int .i64 0, .string .empty]) 32 := ⟨by kernel_rfl, by kernel_rfl⟩
instance : TyC Try.prog 32 (.struct #[⟨"From", 3, 0, false, "", "", 0⟩, ⟨"To", 3, 1, false, "", "", 8⟩, ⟨"Body", 9, 2, false, "", "", 16⟩]) 3 := ⟨by kernel_rfl, by kernel_rfl⟩
instance : Lay Try.prog 32 [(0, 1), (1, 1), (2, 1)] := ⟨_, TyC.und (d := (.struct #[⟨"From", 3, 0, false, "", "", 0⟩, ⟨"To", 3, 1, false, "", "", 8⟩, ⟨"Body", 9, 2, false, "", "", 16⟩])) (k := 3), by kernel_rfl⟩
instance : Fld Try.prog 32 0 0 := ⟨by kernel_rfl⟩
instance : Fld Try.prog 32 1 1 := ⟨by kernel_rfl⟩
instance : Fld Try.prog 32 2 2 := ⟨by kernel_rfl⟩
instance : TyZ Try.prog 32 (.agg #[.int .i64 0, .int .i64 0, .string .empty]) 32 := ⟨by kernel_rfl, by kernel_rfl⟩
instance : TyC Try.prog 33 (.struct #[⟨"Kind", 3, 0, false, "", "", 0⟩, ⟨"N", 3, 1, false, "", "", 8⟩, ⟨"L", 32, 2, false, "", "", 16⟩]) 5 := ⟨by kernel_rfl, by kernel_rfl⟩
instance : Lay Try.prog 33 [(0, 1), (1, 1), (2, 3)] := ⟨_, TyC.und (d := (.struct #[⟨"Kind", 3, 0, false, "", "", 0⟩, ⟨"N", 3, 1, false, "", "", 8⟩, ⟨"L", 32, 2, false, "", "", 16⟩])) (k := 5), by kernel_rfl⟩
instance : Fld Try.prog 33 0 0 := ⟨by kernel_rfl⟩
instance : Fld Try.prog 33 1 1 := ⟨by kernel_rfl⟩
instance : Fld Try.prog 33 2 2 := ⟨by kernel_rfl⟩
instance : TyZ Try.prog 33 (.agg #[.int .i64 0, .int .i64 0, .int .i64 0, .int .i64 0, .string .empty]) 48 := ⟨by kernel_rfl, by kernel_rfl⟩
instance : TyC Try.prog 34 (.struct #[⟨"Kind", 3, 0, false, "", "", 0⟩, ⟨"N", 3, 1, false, "", "", 8⟩, ⟨"L", 32, 2, false, "", "", 16⟩]) 5 := ⟨by kernel_rfl, by kernel_rfl⟩
instance : Lay Try.prog 34 [(0, 1), (1, 1), (2, 3)] := ⟨_, TyC.und (d := (.struct #[⟨"Kind", 3, 0, false, "", "", 0⟩, ⟨"N", 3, 1, false, "", "", 8⟩, ⟨"L", 32, 2, false, "", "", 16⟩])) (k := 5), by kernel_rfl⟩
instance : Fld Try.prog 34 0 0 := ⟨by kernel_rfl⟩
instance : Fld Try.prog 34 1 1 := ⟨by kernel_rfl⟩
instance : Fld Try.prog 34 2 2 := ⟨by kernel_rfl⟩
instance : TyZ Try.prog 34 (.agg #[.int .i64 0, .int .i64 0, .int .i64 0, .int .i64 0, .string .empty]) 48 := ⟨by kernel_rfl, by kernel_rfl⟩
instance : TyC Try.prog 35 (.int .i64) 1 := ⟨by kernel_rfl, by kernel_rfl⟩
instance : TyZ Try.prog 35 (.int .i64 0) 8 := ⟨by kernel_rfl, by kernel_rfl⟩
instance : TyC Try.prog 44 (.map 32 3) 1 := ⟨by kernel_rfl, by kernel_rfl⟩
instance : TyZ Try.prog 44 (.map none) 8 := ⟨by kernel_rfl, by kernel_rfl⟩
instance : TyC Try.prog 47 (.slice 5) 1 := ⟨by kernel_rfl, by kernel_rfl⟩
instance : TyZ Try.prog 47 (.slice none 0 0) 24 := ⟨by kernel_rfl, by kernel_rfl⟩
instance : TyC Try.prog 48 (.slice 59) 1 := ⟨by kernel_rfl, by kernel_rfl⟩
instance : TyZ Try.prog 48 (.slice none 0 0) 24 := ⟨by kernel_rfl, by kernel_rfl⟩
instance : TyC Try.prog 49 (.slice 53) 1 := ⟨by kernel_rfl, by kernel_rfl⟩
instance : TyZ Try.prog 49 (.slice none 0 0) 24 := ⟨by kernel_rfl, by kernel_rfl⟩
instance : TyC Try.prog 51 (.slice 49) 1 := ⟨by kernel_rfl, by kernel_rfl⟩
instance : TyZ Try.prog 51 (.slice none 0 0) 24 := ⟨by kernel_rfl, by kernel_rfl⟩
instance : TyC Try.prog 52 (.struct #[⟨"Term", 2, 0, false, "", "", 0⟩, ⟨"Data", 9, 1, false, "", "", 8⟩]) 2 := ⟨by kernel_rfl, by kernel_rfl⟩
instance : Lay Try.prog 52 [(0, 1), (1, 1)] := ⟨_, TyC.und (d := (.struct #[⟨"Term", 2, 0, false, "", "", 0⟩, ⟨"Data", 9, 1, false, "", "", 8⟩])) (k := 2), by kernel_rfl⟩
instance : Fld Try.prog 52 0 0 := ⟨by kernel_rfl⟩
instance : Fld Try.prog 52 1 1 := ⟨by kernel_rfl⟩
instance : TyZ Try.prog 52 (.agg #[.int .i64 0, .string .empty]) 24 := ⟨by kernel_rfl, by kernel_rfl⟩
instance : TyC Try.prog 53 (.struct #[⟨"Term", 2, 0, false, "", "", 0⟩, ⟨"Data", 9, 1, false, "", "", 8⟩]) 2 := ⟨by kernel_rfl, by kernel_rfl⟩
instance : Lay Try.prog 53 [(0, 1), (1, 1)] := ⟨_, TyC.und (d := (.struct #[⟨"Term", 2, 0, false, "", "", 0⟩, ⟨"Data", 9, 1, false, "", "", 8⟩])) (k := 2), by kernel_rfl⟩
instance : Fld Try.prog 53 0 0 := ⟨by kernel_rfl⟩
instance : Fld Try.prog 53 1 1 := ⟨by kernel_rfl⟩
instance : TyZ Try.prog 53 (.agg #[.int .i64 0, .string .empty]) 24 := ⟨by kernel_rfl, by kernel_rfl⟩
instance : TyC Try.prog 54 (.int .u64) 1 := ⟨by kernel_rfl, by kernel_rfl⟩
instance : TyZ Try.prog 54 (.int .u64 0) 8 := ⟨by kernel_rfl, by kernel_rfl⟩
instance : TyC Try.prog 55 (.pointer 101) 1 := ⟨by kernel_rfl, by kernel_rfl⟩
instance : TyZ Try.prog 55 (.pointer none) 8 := ⟨by kernel_rfl, by kernel_rfl⟩
instance : TyC Try.prog 58 (.struct #[⟨"Who", 5, 0, false, "", "", 0⟩, ⟨"At", 5, 1, false, "", "", 1⟩, ⟨"Many", 5, 2, false, "", "", 2⟩]) 3 := ⟨by kernel_rfl, by kernel_rfl⟩
instance : Lay Try.prog 58 [(0, 1), (1, 1), (2, 1)] := ⟨_, TyC.und (d := (.struct #[⟨"Who", 5, 0, false, "", "", 0⟩, ⟨"At", 5, 1, false, "", "", 1⟩, ⟨"Many", 5, 2, false, "", "", 2⟩])) (k := 3), by kernel_rfl⟩
instance : Fld Try.prog 58 0 0 := ⟨by kernel_rfl⟩
instance : Fld Try.prog 58 1 1 := ⟨by kernel_rfl⟩
instance : Fld Try.prog 58 2 2 := ⟨by kernel_rfl⟩
instance : TyZ Try.prog 58 (.agg #[.int .u8 0, .int .u8 0, .int .u8 0]) 3 := ⟨by kernel_rfl, by kernel_rfl⟩
instance : TyC Try.prog 59 (.struct #[⟨"Who", 5, 0, false, "", "", 0⟩, ⟨"At", 5, 1, false, "", "", 1⟩, ⟨"Many", 5, 2, false, "", "", 2⟩]) 3 := ⟨by kernel_rfl, by kernel_rfl⟩
instance : Lay Try.prog 59 [(0, 1), (1, 1), (2, 1)] := ⟨_, TyC.und (d := (.struct #[⟨"Who", 5, 0, false, "", "", 0⟩, ⟨"At", 5, 1, false, "", "", 1⟩, ⟨"Many", 5, 2, false, "", "", 2⟩])) (k := 3), by kernel_rfl⟩
instance : Fld Try.prog 59 0 0 := ⟨by kernel_rfl⟩
instance : Fld Try.prog 59 1 1 := ⟨by kernel_rfl⟩
instance : Fld Try.prog 59 2 2 := ⟨by kernel_rfl⟩
instance : TyZ Try.prog 59 (.agg #[.int .u8 0, .int .u8 0, .int .u8 0]) 3 := ⟨by kernel_rfl, by kernel_rfl⟩
instance : TyC Try.prog 63 (.slice 68) 1 := ⟨by kernel_rfl, by kernel_rfl⟩
instance : TyZ Try.prog 63 (.slice none 0 0) 24 := ⟨by kernel_rfl, by kernel_rfl⟩
instance : TyC Try.prog 67 (.struct #[⟨"Kind", 3, 0, false, "", "", 0⟩, ⟨"A", 2, 1, false, "", "", 8⟩, ⟨"B", 2, 2, false, "", "", 16⟩, ⟨"L", 49, 3, false, "", "", 24⟩]) 4 := ⟨by kernel_rfl, by kernel_rfl⟩
instance : Lay Try.prog 67 [(0, 1), (1, 1), (2, 1), (3, 1)] := ⟨_, TyC.und (d := (.struct #[⟨"Kind", 3, 0, false, "", "", 0⟩, ⟨"A", 2, 1, false, "", "", 8⟩, ⟨"B", 2, 2, false, "", "", 16⟩, ⟨"L", 49, 3, false, "", "", 24⟩])) (k := 4), by kernel_rfl⟩
instance : Fld Try.prog 67 0 0 := ⟨by kernel_rfl⟩
instance : Fld Try.prog 67 1 1 := ⟨by kernel_rfl⟩
instance : Fld Try.prog 67 2 2 := ⟨by kernel_rfl⟩
instance : Fld Try.prog 67 3 3 := ⟨by kernel_rfl⟩
instance : TyZ Try.prog 67 (.agg #[.int .i64 0, .int .i64 0, .int .i64 0, .slice none 0 0]) 48 := ⟨by kernel_rfl, by kernel_rfl⟩
instance : TyC Try.prog 68 (.struct #[⟨"Kind", 3, 0, false, "", "", 0⟩, ⟨"A", 2, 1, false, "", "", 8⟩, ⟨"B", 2, 2, false, "", "", 16⟩, ⟨"L", 49, 3, false, "", "", 24⟩]) 4 := ⟨by kernel_rfl, by kernel_rfl⟩
instance : Lay Try.prog 68 [(0, 1), (1, 1), (2, 1), (3, 1)] := ⟨_, TyC.und (d := (.struct #[⟨"Kind", 3, 0, false, "", "", 0⟩, ⟨"A", 2, 1, false, "", "", 8⟩, ⟨"B", 2, 2, false, "", "", 16⟩, ⟨"L", 49, 3, false, "", "", 24⟩])) (k := 4), by kernel_rfl⟩
instance : Fld Try.prog 68 0 0 := ⟨by kernel_rfl⟩
instance : Fld Try.prog 68 1 1 := ⟨by kernel_rfl⟩
instance : Fld Try.prog 68 2 2 := ⟨by kernel_rfl⟩
instance : Fld Try.prog 68 3 3 := ⟨by kernel_rfl⟩
instance : TyZ Try.prog 68 (.agg #[.int .i64 0, .int .i64 0, .int .i64 0, .slice none 0 0]) 48 := ⟨by kernel_rfl, by kernel_rfl⟩
instance : TyC Try.prog 75 (.array 2 2) 2 := ⟨by kernel_rfl, by kernel_rfl⟩
instance : TyZ Try.prog 75 (.agg #[.int .i64 0, .int .i64 0]) 16 := ⟨by kernel_rfl, by kernel_rfl⟩
instance : TyC Try.prog 78 (.slice 75) 1 := ⟨by kernel_rfl, by kernel_rfl⟩
instance : TyZ Try.prog 78 (.slice none 0 0) 24 := ⟨by kernel_rfl, by kernel_rfl⟩
instance : TyC Try.prog 81 (.struct #[⟨"Index", 2, 0, false, "", "", 0⟩, ⟨"Base", 2, 1, false, "", "", 8⟩, ⟨"L", 49, 2, false, "", "", 16⟩]) 3 := ⟨by kernel_rfl, by kernel_rfl⟩
instance : Lay Try.prog 81 [(0, 1), (1, 1), (2, 1)] := ⟨_, TyC.und (d := (.struct #[⟨"Index", 2, 0, false, "", "", 0⟩, ⟨"Base", 2, 1, false, "", "", 8⟩, ⟨"L", 49, 2, false, "", "", 16⟩])) (k := 3), by kernel_rfl⟩
instance : Fld Try.prog 81 0 0 := ⟨by kernel_rfl⟩
instance : Fld Try.prog 81 1 1 := ⟨by kernel_rfl⟩
instance : Fld Try.prog 81 2 2 := ⟨by kernel_rfl⟩
instance : TyZ Try.prog 81 (.agg #[.int .i64 0, .int .i64 0, .slice none 0 0]) 40 := ⟨by kernel_rfl, by kernel_rfl⟩
instance : TyC Try.prog 82 (.struct #[⟨"Index", 2, 0, false, "", "", 0⟩, ⟨"Base", 2, 1, false, "", "", 8⟩, ⟨"L", 49, 2, false, "", "", 16⟩]) 3 := ⟨by kernel_rfl, by kernel_rfl⟩
instance : Lay Try.prog 82 [(0, 1), (1, 1), (2, 1)] := ⟨_, TyC.und (d := (.struct #[⟨"Index", 2, 0, false, "", "", 0⟩, ⟨"Base", 2, 1, false, "", "", 8⟩, ⟨"L", 49, 2, false, "", "", 16⟩])) (k := 3), by kernel_rfl⟩
instance : Fld Try.prog 82 0 0 := ⟨by kernel_rfl⟩
instance : Fld Try.prog 82 1 1 := ⟨by kernel_rfl⟩
instance : Fld Try.prog 82 2 2 := ⟨by kernel_rfl⟩
instance : TyZ Try.prog 82 (.agg #[.int .i64 0, .int .i64 0, .slice none 0 0]) 40 := ⟨by kernel_rfl, by kernel_rfl⟩
instance : TyC Try.prog 94 (.struct #[⟨"l", 27, 0, false, "", "provost/net", 0⟩, ⟨"sides", 3, 1, false, "", "provost/net", 24⟩]) 2 := ⟨by kernel_rfl, by kernel_rfl⟩
instance : Lay Try.prog 94 [(0, 1), (1, 1)] := ⟨_, TyC.und (d := (.struct #[⟨"l", 27, 0, false, "", "provost/net", 0⟩, ⟨"sides", 3, 1, false, "", "provost/net", 24⟩])) (k := 2), by kernel_rfl⟩
instance : Fld Try.prog 94 0 0 := ⟨by kernel_rfl⟩
instance : Fld Try.prog 94 1 1 := ⟨by kernel_rfl⟩
instance : TyZ Try.prog 94 (.agg #[.slice none 0 0, .int .i64 0]) 32 := ⟨by kernel_rfl, by kernel_rfl⟩
instance : TyC Try.prog 95 (.struct #[⟨"l", 27, 0, false, "", "provost/net", 0⟩, ⟨"sides", 3, 1, false, "", "provost/net", 24⟩]) 2 := ⟨by kernel_rfl, by kernel_rfl⟩
instance : Lay Try.prog 95 [(0, 1), (1, 1)] := ⟨_, TyC.und (d := (.struct #[⟨"l", 27, 0, false, "", "provost/net", 0⟩, ⟨"sides", 3, 1, false, "", "provost/net", 24⟩])) (k := 2), by kernel_rfl⟩
instance : Fld Try.prog 95 0 0 := ⟨by kernel_rfl⟩
instance : Fld Try.prog 95 1 1 := ⟨by kernel_rfl⟩
instance : TyZ Try.prog 95 (.agg #[.slice none 0 0, .int .i64 0]) 32 := ⟨by kernel_rfl, by kernel_rfl⟩
instance : TyC Try.prog 97 (.int .u64) 1 := ⟨by kernel_rfl, by kernel_rfl⟩
instance : TyZ Try.prog 97 (.int .u64 0) 8 := ⟨by kernel_rfl, by kernel_rfl⟩
instance : TyC Try.prog 100 (.struct #[⟨"index", 2, 0, false, "", "provost/rlog", 0⟩, ⟨"term", 2, 1, false, "", "provost/rlog", 8⟩, ⟨"l", 49, 2, false, "", "provost/rlog", 16⟩]) 3 := ⟨by kernel_rfl, by kernel_rfl⟩
instance : Lay Try.prog 100 [(0, 1), (1, 1), (2, 1)] := ⟨_, TyC.und (d := (.struct #[⟨"index", 2, 0, false, "", "provost/rlog", 0⟩, ⟨"term", 2, 1, false, "", "provost/rlog", 8⟩, ⟨"l", 49, 2, false, "", "provost/rlog", 16⟩])) (k := 3), by kernel_rfl⟩
instance : Fld Try.prog 100 0 0 := ⟨by kernel_rfl⟩
instance : Fld Try.prog 100 1 1 := ⟨by kernel_rfl⟩
instance : Fld Try.prog 100 2 2 := ⟨by kernel_rfl⟩
instance : TyZ Try.prog 100 (.agg #[.int .i64 0, .int .i64 0, .slice none 0 0]) 40 := ⟨by kernel_rfl, by kernel_rfl⟩
instance : TyC Try.prog 101 (.struct #[⟨"index", 2, 0, false, "", "provost/rlog", 0⟩, ⟨"term", 2, 1, false, "", "provost/rlog", 8⟩, ⟨"l", 49, 2, false, "", "provost/rlog", 16⟩]) 3 := ⟨by kernel_rfl, by kernel_rfl⟩
instance : Lay Try.prog 101 [(0, 1), (1, 1), (2, 1)] := ⟨_, TyC.und (d := (.struct #[⟨"index", 2, 0, false, "", "provost/rlog", 0⟩, ⟨"term", 2, 1, false, "", "provost/rlog", 8⟩, ⟨"l", 49, 2, false, "", "provost/rlog", 16⟩])) (k := 3), by kernel_rfl⟩
instance : Fld Try.prog 101 0 0 := ⟨by kernel_rfl⟩
instance : Fld Try.prog 101 1 1 := ⟨by kernel_rfl⟩
instance : Fld Try.prog 101 2 2 := ⟨by kernel_rfl⟩
instance : TyZ Try.prog 101 (.agg #[.int .i64 0, .int .i64 0, .slice none 0 0]) 40 := ⟨by kernel_rfl, by kernel_rfl⟩
instance : TyC Try.prog 103 (.struct #[⟨"_interface", 17, 0, false, "", "runtime", 0⟩, ⟨"concrete", 17, 1, false, "", "runtime", 8⟩, ⟨"asserted", 17, 2, false, "", "runtime", 16⟩, ⟨"missingMethod", 9, 3, false, "", "runtime", 24⟩]) 4 := ⟨by kernel_rfl, by kernel_rfl⟩
instance : Lay Try.prog 103 [(0, 1), (1, 1), (2, 1), (3, 1)] := ⟨_, TyC.und (d := (.struct #[⟨"_interface", 17, 0, false, "", "runtime", 0⟩, ⟨"concrete", 17, 1, false, "", "runtime", 8⟩, ⟨"asserted", 17, 2, false, "", "runtime", 16⟩, ⟨"missingMethod", 9, 3, false, "", "runtime", 24⟩])) (k := 4), by kernel_rfl⟩
instance : Fld Try.prog 103 0 0 := ⟨by kernel_rfl⟩
instance : Fld Try.prog 103 1 1 := ⟨by kernel_rfl⟩
instance : Fld Try.prog 103 2 2 := ⟨by kernel_rfl⟩
instance : Fld Try.prog 103 3 3 := ⟨by kernel_rfl⟩
instance : TyZ Try.prog 103 (.agg #[.pointer none, .pointer none, .pointer none, .string .empty]) 40 := ⟨by kernel_rfl, by kernel_rfl⟩
instance : TyC Try.prog 104 (.struct #[⟨"_interface", 17, 0, false, "", "runtime", 0⟩, ⟨"concrete", 17, 1, false, "", "runtime", 8⟩, ⟨"asserted", 17, 2, false, "", "runtime", 16⟩, ⟨"missingMethod", 9, 3, false, "", "runtime", 24⟩]) 4 := ⟨by kernel_rfl, by kernel_rfl⟩
instance : Lay Try.prog 104 [(0, 1), (1, 1), (2, 1), (3, 1)] := ⟨_, TyC.und (d := (.struct #[⟨"_interface", 17, 0, false, "", "runtime", 0⟩, ⟨"concrete", 17, 1, false, "", "runtime", 8⟩, ⟨"asserted", 17, 2, false, "", "runtime", 16⟩, ⟨"missingMethod", 9, 3, false, "", "runtime", 24⟩])) (k := 4), by kernel_rfl⟩
instance : Fld Try.prog 104 0 0 := ⟨by kernel_rfl⟩
instance : Fld Try.prog 104 1 1 := ⟨by kernel_rfl⟩
instance : Fld Try.prog 104 2 2 := ⟨by kernel_rfl⟩
instance : Fld Try.prog 104 3 3 := ⟨by kernel_rfl⟩
instance : TyZ Try.prog 104 (.agg #[.pointer none, .pointer none, .pointer none, .string .empty]) 40 := ⟨by kernel_rfl, by kernel_rfl⟩
instance : TyC Try.prog 105 (.array 0 16) 0 := ⟨by kernel_rfl, by kernel_rfl⟩
instance : TyZ Try.prog 105 (.agg #[]) 0 := ⟨by kernel_rfl, by kernel_rfl⟩
instance : TyC Try.prog 106 (.struct #[⟨"_", 105, 0, false, "", "runtime", 0⟩]) 0 := ⟨by kernel_rfl, by kernel_rfl⟩
instance : Lay Try.prog 106 [(0, 0)] := ⟨_, TyC.und (d := (.struct #[⟨"_", 105, 0, false, "", "runtime", 0⟩])) (k := 0), by kernel_rfl⟩
instance : TyZ Try.prog 106 (.agg #[]) 0 := ⟨by kernel_rfl, by kernel_rfl⟩
instance : TyC Try.prog 107 (.struct #[⟨"_", 105, 0, false, "", "runtime", 0⟩]) 0 := ⟨by kernel_rfl, by kernel_rfl⟩
instance : Lay Try.prog 107 [(0, 0)] := ⟨_, TyC.und (d := (.struct #[⟨"_", 105, 0, false, "", "runtime", 0⟩])) (k := 0), by kernel_rfl⟩
instance : TyZ Try.prog 107 (.agg #[]) 0 := ⟨by kernel_rfl, by kernel_rfl⟩
instance : TyC Try.prog 109 (.int .u32) 1 := ⟨by kernel_rfl, by kernel_rfl⟩
instance : TyZ Try.prog 109 (.int .u32 0) 4 := ⟨by kernel_rfl, by kernel_rfl⟩
instance : TyC Try.prog 110 (.int .u8) 1 := ⟨by kernel_rfl, by kernel_rfl⟩
instance : TyZ Try.prog 110 (.int .u8 0) 1 := ⟨by kernel_rfl, by kernel_rfl⟩
instance : TyC Try.prog 111 (.int .u8) 1 := ⟨by kernel_rfl, by kernel_rfl⟩
instance : TyZ Try.prog 111 (.int .u8 0) 1 := ⟨by kernel_rfl, by kernel_rfl⟩
instance : TyC Try.prog 113 (.pointer 5) 1 := ⟨by kernel_rfl, by kernel_rfl⟩
instance : TyZ Try.prog 113 (.pointer none) 8 := ⟨by kernel_rfl, by kernel_rfl⟩
instance : TyC Try.prog 114 (.int .i32) 1 := ⟨by kernel_rfl, by kernel_rfl⟩
instance : TyZ Try.prog 114 (.int .i32 0) 4 := ⟨by kernel_rfl, by kernel_rfl⟩
instance : TyC Try.prog 115 (.int .i32) 1 := ⟨by kernel_rfl, by kernel_rfl⟩
instance : TyZ Try.prog 115 (.int .i32 0) 4 := ⟨by kernel_rfl, by kernel_rfl⟩
instance : TyC Try.prog 116 (.struct #[⟨"Size_", 12, 0, false, "", "", 0⟩, ⟨"PtrBytes", 12, 1, false, "", "", 8⟩, ⟨"Hash", 109, 2, false, "", "", 16⟩, ⟨"TFlag", 110, 3, false, "", "", 20⟩, ⟨"Align_", 5, 4, false, "", "", 21⟩, ⟨"FieldAlign_", 5, 5, false, "", "", 22⟩, ⟨"Kind_", 111, 6, false, "", "", 23⟩, ⟨"Equal", 112, 7, false, "", "", 24⟩, ⟨"GCData", 113, 8, false, "", "", 32⟩, ⟨"Str", 114, 9, false, "", "", 40⟩, ⟨"PtrToThis", 115, 10, false, "", "", 44⟩]) 11 := ⟨by kernel_rfl, by kernel_rfl⟩
instance : Lay Try.prog 116 [(0, 1), (1, 1), (2, 1), (3, 1), (4, 1), (5, 1), (6, 1), (7, 1), (8, 1), (9, 1), (10, 1)] := ⟨_, TyC.und (d := (.struct #[⟨"Size_", 12, 0, false, "", "", 0⟩, ⟨"PtrBytes", 12, 1, false, "", "", 8⟩, ⟨"Hash", 109, 2, false, "", "", 16⟩, ⟨"TFlag", 110, 3, false, "", "", 20⟩, ⟨"Align_", 5, 4, false, "", "", 21⟩, ⟨"FieldAlign_", 5, 5, false, "", "", 22⟩, ⟨"Kind_", 111, 6, false, "", "", 23⟩, ⟨"Equal", 112, 7, false, "", "", 24⟩, ⟨"GCData", 113, 8, false, "", "", 32⟩, ⟨"Str", 114, 9, false, "", "", 40⟩, ⟨"PtrToThis", 115, 10, false, "", "", 44⟩])) (k := 11), by kernel_rfl⟩
instance : Fld Try.prog 116 0 0 := ⟨by kernel_rfl⟩
instance : Fld Try.prog 116 1 1 := ⟨by kernel_rfl⟩
instance : Fld Try.prog 116 2 2 := ⟨by kernel_rfl⟩
instance : Fld Try.prog 116 3 3 := ⟨by kernel_rfl⟩
instance : Fld Try.prog 116 4 4 := ⟨by kernel_rfl⟩
instance : Fld Try.prog 116 5 5 := ⟨by kernel_rfl⟩
instance : Fld Try.prog 116 6 6 := ⟨by kernel_rfl⟩
instance : Fld Try.prog 116 7 7 := ⟨by kernel_rfl⟩
instance : Fld Try.prog 116 8 8 := ⟨by kernel_rfl⟩
instance : Fld Try.prog 116 9 9 := ⟨by kernel_rfl⟩
instance : Fld Try.prog 116 10 10 := ⟨by kernel_rfl⟩
instance : TyZ Try.prog 116 (.agg #[.int .u64 0, .int .u64 0, .int .u32 0, .int .u8 0, .int .u8 0, .int .u8 0, .int .u8 0, .nilFunc, .pointer none, .int .i32 0, .int .i32 0]) 48 := ⟨by kernel_rfl, by kernel_rfl⟩
instance : TyC Try.prog 117 (.struct #[⟨"Size_", 12, 0, false, "", "", 0⟩, ⟨"PtrBytes", 12, 1, false, "", "", 8⟩, ⟨"Hash", 109, 2, false, "", "", 16⟩, ⟨"TFlag", 110, 3, false, "", "", 20⟩, ⟨"Align_", 5, 4, false, "", "", 21⟩, ⟨"FieldAlign_", 5, 5, false, "", "", 22⟩, ⟨"Kind_", 111, 6, false, "", "", 23⟩, ⟨"Equal", 112, 7, false, "", "", 24⟩, ⟨"GCData", 113, 8, false, "", "", 32⟩, ⟨"Str", 114, 9, false, "", "", 40⟩, ⟨"PtrToThis", 115, 10, false, "", "", 44⟩]) 11 := ⟨by kernel_rfl, by kernel_rfl⟩
instance : Lay Try.prog 117 [(0, 1), (1, 1), (2, 1), (3, 1), (4, 1), (5, 1), (6, 1), (7, 1), (8, 1), (9, 1), (10, 1)] := ⟨_, TyC.und (d := (.struct #[⟨"Size_", 12, 0, false, "", "", 0⟩, ⟨"PtrBytes", 12, 1, false, "", "", 8⟩, ⟨"Hash", 109, 2, false, "", "", 16⟩, ⟨"TFlag", 110, 3, false, "", "", 20⟩, ⟨"Align_", 5, 4, false, "", "", 21⟩, ⟨"FieldAlign_", 5, 5, false, "", "", 22⟩, ⟨"Kind_", 111, 6, false, "", "", 23⟩, ⟨"Equal", 112, 7, false, "", "", 24⟩, ⟨"GCData", 113, 8, false, "", "", 32⟩, ⟨"Str", 114, 9, false, "", "", 40⟩, ⟨"PtrToThis", 115, 10, false, "", "", 44⟩])) (k := 11), by kernel_rfl⟩
instance : Fld Try.prog 117 0 0 := ⟨by kernel_rfl⟩
instance : Fld Try.prog 117 1 1 := ⟨by kernel_rfl⟩
instance : Fld Try.prog 117 2 2 := ⟨by kernel_rfl⟩
instance : Fld Try.prog 117 3 3 := ⟨by kernel_rfl⟩
instance : Fld Try.prog 117 4 4 := ⟨by kernel_rfl⟩
instance : Fld Try.prog 117 5 5 := ⟨by kernel_rfl⟩
instance : Fld Try.prog 117 6 6 := ⟨by kernel_rfl⟩
instance : Fld Try.prog 117 7 7 := ⟨by kernel_rfl⟩
instance : Fld Try.prog 117 8 8 := ⟨by kernel_rfl⟩
instance : Fld Try.prog 117 9 9 := ⟨by kernel_rfl⟩
instance : Fld Try.prog 117 10 10 := ⟨by kernel_rfl⟩
instance : TyZ Try.prog 117 (.agg #[.int .u64 0, .int .u64 0, .int .u32 0, .int .u8 0, .int .u8 0, .int .u8 0, .int .u8 0, .nilFunc, .pointer none, .int .i32 0, .int .i32 0]) 48 := ⟨by kernel_rfl, by kernel_rfl⟩
instance : Fnc Try.prog 3 := ⟨Try.f3, Try.func3, by kernel_rfl, by kernel_rfl⟩
instance : Fnc Try.prog 4 := ⟨Try.f4, Try.func4, by kernel_rfl, by kernel_rfl⟩
instance : Fnc Try.prog 5 := ⟨Try.f5, Try.func5, by kernel_rfl, by kernel_rfl⟩
instance : Fnc Try.prog 6 := ⟨Try.f6, Try.func6, by kernel_rfl, by kernel_rfl⟩
instance : Fnc Try.prog 7 := ⟨Try.f7, Try.func7, by kernel_rfl, by kernel_rfl⟩
instance : Fnc Try.prog 8 := ⟨Try.f8, Try.func8, by kernel_rfl, by kernel_rfl⟩
instance : Fnc Try.prog 9 := ⟨Try.f9, Try.func9, by kernel_rfl, by kernel_rfl⟩
instance : Fnc Try.prog 10 := ⟨Try.f10, Try.func10, by kernel_rfl, by kernel_rfl⟩
instance : Fnc Try.prog 11 := ⟨Try.f11, Try.func11, by kernel_rfl, by kernel_rfl⟩
instance : Fnc Try.prog 12 := ⟨Try.f12, Try.func12, by kernel_rfl, by kernel_rfl⟩
instance : Fnc Try.prog 13 := ⟨Try.f13, Try.func13, by kernel_rfl, by kernel_rfl⟩
instance : Fnc Try.prog 14 := ⟨Try.f14, Try.func14, by kernel_rfl, by kernel_rfl⟩
instance : Fnc Try.prog 15 := ⟨Try.f15, Try.func15, by kernel_rfl, by kernel_rfl⟩
instance : Fnc Try.prog 16 := ⟨Try.f16, Try.func16, by kernel_rfl, by kernel_rfl⟩
instance : Fnc Try.prog 17 := ⟨Try.f17, Try.func17, by kernel_rfl, by kernel_rfl⟩
instance : Fnc Try.prog 18 := ⟨Try.f18, Try.func18, by kernel_rfl, by kernel_rfl⟩
instance : Fnc Try.prog 19 := ⟨Try.f19, Try.func19, by kernel_rfl, by kernel_rfl⟩
instance : Fnc Try.prog 20 := ⟨Try.f20, Try.func20, by kernel_rfl, by kernel_rfl⟩
instance : Fnc Try.prog 21 := ⟨Try.f21, Try.func21, by kernel_rfl, by kernel_rfl⟩
instance : Fnc Try.prog 22 := ⟨Try.f22, Try.func22, by kernel_rfl, by kernel_rfl⟩
instance : Fnc Try.prog 23 := ⟨Try.f23, Try.func23, by kernel_rfl, by kernel_rfl⟩
instance : Fnc Try.prog 24 := ⟨Try.f24, Try.func24, by kernel_rfl, by kernel_rfl⟩
instance : Fnc Try.prog 25 := ⟨Try.f25, Try.func25, by kernel_rfl, by kernel_rfl⟩
instance : Fnc Try.prog 26 := ⟨Try.f26, Try.func26, by kernel_rfl, by kernel_rfl⟩
instance : Fnc Try.prog 27 := ⟨Try.f27, Try.func27, by kernel_rfl, by kernel_rfl⟩
instance : Fnc Try.prog 28 := ⟨Try.f28, Try.func28, by kernel_rfl, by kernel_rfl⟩
instance : Fnc Try.prog 29 := ⟨Try.f29, Try.func29, by kernel_rfl, by kernel_rfl⟩
instance : Fnc Try.prog 30 := ⟨Try.f30, Try.func30, by kernel_rfl, by kernel_rfl⟩
instance : Fnc Try.prog 31 := ⟨Try.f31, Try.func31, by kernel_rfl, by kernel_rfl⟩
instance : Fnc Try.prog 32 := ⟨Try.f32, Try.func32, by kernel_rfl, by kernel_rfl⟩
instance : Fnc Try.prog 33 := ⟨Try.f33, Try.func33, by kernel_rfl, by kernel_rfl⟩
instance : Fnc Try.prog 34 := ⟨Try.f34, Try.func34, by kernel_rfl, by kernel_rfl⟩
instance : Fnc Try.prog 35 := ⟨Try.f35, Try.func35, by kernel_rfl, by kernel_rfl⟩
instance : Fnc Try.prog 36 := ⟨Try.f36, Try.func36, by kernel_rfl, by kernel_rfl⟩
instance : Fnc Try.prog 37 := ⟨Try.f37, Try.func37, by kernel_rfl, by kernel_rfl⟩
instance : Fnc Try.prog 38 := ⟨Try.f38, Try.func38, by kernel_rfl, by kernel_rfl⟩
instance : Fnc Try.prog 39 := ⟨Try.f39, Try.func39, by kernel_rfl, by kernel_rfl⟩
instance : Fnc Try.prog 40 := ⟨Try.f40, Try.func40, by kernel_rfl, by kernel_rfl⟩
instance : Fnc Try.prog 41 := ⟨Try.f41, Try.func41, by kernel_rfl, by kernel_rfl⟩
instance : Fnc Try.prog 42 := ⟨Try.f42, Try.func42, by kernel_rfl, by kernel_rfl⟩
instance : Fnc Try.prog 43 := ⟨Try.f43, Try.func43, by kernel_rfl, by kernel_rfl⟩
instance : Fnc Try.prog 44 := ⟨Try.f44, Try.func44, by kernel_rfl, by kernel_rfl⟩
instance : Fnc Try.prog 45 := ⟨Try.f45, Try.func45, by kernel_rfl, by kernel_rfl⟩
instance : Fnc Try.prog 46 := ⟨Try.f46, Try.func46, by kernel_rfl, by kernel_rfl⟩
instance : Fnc Try.prog 47 := ⟨Try.f47, Try.func47, by kernel_rfl, by kernel_rfl⟩
instance : Fnc Try.prog 48 := ⟨Try.f48, Try.func48, by kernel_rfl, by kernel_rfl⟩
instance : Fnc Try.prog 49 := ⟨Try.f49, Try.func49, by kernel_rfl, by kernel_rfl⟩
instance : Fnc Try.prog 50 := ⟨Try.f50, Try.func50, by kernel_rfl, by kernel_rfl⟩
instance : Fnc Try.prog 51 := ⟨Try.f51, Try.func51, by kernel_rfl, by kernel_rfl⟩
instance : Fnc Try.prog 52 := ⟨Try.f52, Try.func52, by kernel_rfl, by kernel_rfl⟩
instance : Fnc Try.prog 53 := ⟨Try.f53, Try.func53, by kernel_rfl, by kernel_rfl⟩
instance : Fnc Try.prog 54 := ⟨Try.f54, Try.func54, by kernel_rfl, by kernel_rfl⟩
instance : Fnc Try.prog 55 := ⟨Try.f55, Try.func55, by kernel_rfl, by kernel_rfl⟩
instance : Fnc Try.prog 56 := ⟨Try.f56, Try.func56, by kernel_rfl, by kernel_rfl⟩
end Go.Proofs.Ytidamnmfobblaaa
