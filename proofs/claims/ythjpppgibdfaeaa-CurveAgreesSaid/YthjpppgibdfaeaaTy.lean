/- YthjpppgibdfaeaaTy: a part of the proof: lemmas alone, of no statement. -/
import Derived.Test.YthjpppgibdfaeaaSxThree
import Derived.Test.YthjpppgibdfaeaaChecked
/- The types of the translation, for the symbolic reading. -/
namespace Go.Proofs.Ythjpppgibdfaeaa
open Go Go.SX
theorem ty2 : TyOK1 Go.Proofs.Try.prog 2 ⟨.int .i64, 1, [.one (.int .i64 0)]⟩ := .mk' (by kernel_rfl) (by kernel_rfl) (fun _ => by kernel_rfl) (by kernel_rfl) (.inl rfl)
theorem ty3 : TyOK1 Go.Proofs.Try.prog 3 ⟨.int .i64, 1, [.one (.int .i64 0)]⟩ := .mk' (by kernel_rfl) (by kernel_rfl) (fun _ => by kernel_rfl) (by kernel_rfl) (.inl rfl)
theorem ty4 : TyOK1 Go.Proofs.Try.prog 4 ⟨.bool, 1, [.one (.bool false)]⟩ := .mk' (by kernel_rfl) (by kernel_rfl) (fun _ => by kernel_rfl) (by kernel_rfl) (.inl rfl)
theorem ty5 : TyOK1 Go.Proofs.Try.prog 5 ⟨.int .u8, 1, [.one (.int .u8 0)]⟩ := .mk' (by kernel_rfl) (by kernel_rfl) (fun _ => by kernel_rfl) (by kernel_rfl) (.inl rfl)
theorem ty6 : TyOK1 Go.Proofs.Try.prog 6 ⟨.int .u8, 1, [.one (.int .u8 0)]⟩ := .mk' (by kernel_rfl) (by kernel_rfl) (fun _ => by kernel_rfl) (by kernel_rfl) (.inl rfl)
theorem ty7 : TyOK1 Go.Proofs.Try.prog 7 ⟨.struct #[⟨"x", 2, 0, false, "", "runtime", 0⟩, ⟨"y", 3, 1, false, "", "runtime", 8⟩, ⟨"signed", 4, 2, false, "", "runtime", 16⟩, ⟨"code", 6, 3, false, "", "runtime", 17⟩], 4, [.one (.int .i64 0), .one (.int .i64 0), .one (.bool false), .one (.int .u8 0)]⟩ := .mk' (by kernel_rfl) (by kernel_rfl) (fun _ => by kernel_rfl) (by kernel_rfl) (.inl rfl)
theorem ty8 : TyOK1 Go.Proofs.Try.prog 8 ⟨.struct #[⟨"x", 2, 0, false, "", "runtime", 0⟩, ⟨"y", 3, 1, false, "", "runtime", 8⟩, ⟨"signed", 4, 2, false, "", "runtime", 16⟩, ⟨"code", 6, 3, false, "", "runtime", 17⟩], 4, [.one (.int .i64 0), .one (.int .i64 0), .one (.bool false), .one (.int .u8 0)]⟩ := .mk' (by kernel_rfl) (by kernel_rfl) (fun _ => by kernel_rfl) (by kernel_rfl) (.inl rfl)
theorem ty9 : TyOK1 Go.Proofs.Try.prog 9 ⟨.string, 1, [.one (.string ByteArray.empty)]⟩ := .mk' (by kernel_rfl) (by kernel_rfl) (fun _ => by kernel_rfl) (by kernel_rfl) (.inl rfl)
theorem ty10 : TyOK1 Go.Proofs.Try.prog 10 ⟨.string, 1, [.one (.string ByteArray.empty)]⟩ := .mk' (by kernel_rfl) (by kernel_rfl) (fun _ => by kernel_rfl) (by kernel_rfl) (.inl rfl)
theorem ty11 : TyOK1 Go.Proofs.Try.prog 11 ⟨.string, 1, [.one (.string ByteArray.empty)]⟩ := .mk' (by kernel_rfl) (by kernel_rfl) (fun _ => by kernel_rfl) (by kernel_rfl) (.inl rfl)
theorem ty12 : TyOK1 Go.Proofs.Try.prog 12 ⟨.int .u64, 1, [.one (.int .u64 0)]⟩ := .mk' (by kernel_rfl) (by kernel_rfl) (fun _ => by kernel_rfl) (by kernel_rfl) (.inl rfl)
theorem ty13 : TyOK1 Go.Proofs.Try.prog 13 ⟨.struct #[⟨"msg", 9, 0, false, "", "runtime", 0⟩, ⟨"addr", 12, 1, false, "", "runtime", 16⟩], 2, [.one (.string ByteArray.empty), .one (.int .u64 0)]⟩ := .mk' (by kernel_rfl) (by kernel_rfl) (fun _ => by kernel_rfl) (by kernel_rfl) (.inl rfl)
theorem ty14 : TyOK1 Go.Proofs.Try.prog 14 ⟨.struct #[⟨"msg", 9, 0, false, "", "runtime", 0⟩, ⟨"addr", 12, 1, false, "", "runtime", 16⟩], 2, [.one (.string ByteArray.empty), .one (.int .u64 0)]⟩ := .mk' (by kernel_rfl) (by kernel_rfl) (fun _ => by kernel_rfl) (by kernel_rfl) (.inl rfl)
theorem ty15 : TyOK1 Go.Proofs.Try.prog 15 ⟨.pointer 144, 1, [.one (.pointer none)]⟩ := .mk' (by kernel_rfl) (by kernel_rfl) (fun _ => by kernel_rfl) (by kernel_rfl) (.inl rfl)
theorem ty16 : TyOK1 Go.Proofs.Try.prog 16 ⟨.pointer 147, 1, [.one (.pointer none)]⟩ := .mk' (by kernel_rfl) (by kernel_rfl) (fun _ => by kernel_rfl) (by kernel_rfl) (.inl rfl)
theorem ty17 : TyOK1 Go.Proofs.Try.prog 17 ⟨.pointer 156, 1, [.one (.pointer none)]⟩ := .mk' (by kernel_rfl) (by kernel_rfl) (fun _ => by kernel_rfl) (by kernel_rfl) (.inl rfl)
theorem ty18 : TyOK1 Go.Proofs.Try.prog 18 ⟨.struct #[⟨"typ", 17, 0, false, "", "internal/runtime/maps", 0⟩], 1, [.one (.pointer none)]⟩ := .mk' (by kernel_rfl) (by kernel_rfl) (fun _ => by kernel_rfl) (by kernel_rfl) (.inl rfl)
theorem ty19 : TyOK1 Go.Proofs.Try.prog 19 ⟨.struct #[⟨"typ", 17, 0, false, "", "internal/runtime/maps", 0⟩], 1, [.one (.pointer none)]⟩ := .mk' (by kernel_rfl) (by kernel_rfl) (fun _ => by kernel_rfl) (by kernel_rfl) (.inl rfl)
theorem ty21 : TyOK1 Go.Proofs.Try.prog 21 ⟨.int .i32, 1, [.one (.int .i32 0)]⟩ := .mk' (by kernel_rfl) (by kernel_rfl) (fun _ => by kernel_rfl) (by kernel_rfl) (.inl rfl)
theorem ty22 : TyOK1 Go.Proofs.Try.prog 22 ⟨.array 32 5, 32, [.many 32 (List.replicate 32 (.int .u8 0))]⟩ := .mk' (by kernel_rfl) (by kernel_rfl) (fun _ => by kernel_rfl) (by kernel_rfl) (.inr (by kernel_rfl))
theorem ty23 : TyOK1 Go.Proofs.Try.prog 23 ⟨.slice 5, 1, [.one (.slice none 0 0)]⟩ := .mk' (by kernel_rfl) (by kernel_rfl) (fun _ => by kernel_rfl) (by kernel_rfl) (.inl rfl)
theorem ty25 : TyOK1 Go.Proofs.Try.prog 25 ⟨.array 33 5, 33, [.many 33 (List.replicate 33 (.int .u8 0))]⟩ := .mk' (by kernel_rfl) (by kernel_rfl) (fun _ => by kernel_rfl) (by kernel_rfl) (.inr (by kernel_rfl))
theorem ty26 : TyOK1 Go.Proofs.Try.prog 26 ⟨.int .i64, 1, [.one (.int .i64 0)]⟩ := .mk' (by kernel_rfl) (by kernel_rfl) (fun _ => by kernel_rfl) (by kernel_rfl) (.inl rfl)
theorem ty35 : TyOK1 Go.Proofs.Try.prog 35 ⟨.int .u32, 1, [.one (.int .u32 0)]⟩ := .mk' (by kernel_rfl) (by kernel_rfl) (fun _ => by kernel_rfl) (by kernel_rfl) (.inl rfl)
theorem ty36 : TyOK1 Go.Proofs.Try.prog 36 ⟨.array 8 35, 8, [.many 8 (List.replicate 8 (.int .u32 0))]⟩ := .mk' (by kernel_rfl) (by kernel_rfl) (fun _ => by kernel_rfl) (by kernel_rfl) (.inr (by kernel_rfl))
theorem ty37 : TyOK1 Go.Proofs.Try.prog 37 ⟨.array 8 35, 8, [.many 8 (List.replicate 8 (.int .u32 0))]⟩ := .mk' (by kernel_rfl) (by kernel_rfl) (fun _ => by kernel_rfl) (by kernel_rfl) (.inr (by kernel_rfl))
theorem ty38 : TyOK1 Go.Proofs.Try.prog 38 ⟨.struct #[⟨"X", 37, 0, false, "", "", 0⟩, ⟨"Y", 37, 8, false, "", "", 32⟩, ⟨"Z", 37, 16, false, "", "", 64⟩], 24, [.many 8 (List.replicate 8 (.int .u32 0)), .many 8 (List.replicate 8 (.int .u32 0)), .many 8 (List.replicate 8 (.int .u32 0))]⟩ := .mk' (by kernel_rfl) (by kernel_rfl) (fun _ => by kernel_rfl) (by kernel_rfl) (.inl rfl)
theorem ty39 : TyOK1 Go.Proofs.Try.prog 39 ⟨.struct #[⟨"X", 37, 0, false, "", "", 0⟩, ⟨"Y", 37, 8, false, "", "", 32⟩, ⟨"Z", 37, 16, false, "", "", 64⟩], 24, [.many 8 (List.replicate 8 (.int .u32 0)), .many 8 (List.replicate 8 (.int .u32 0)), .many 8 (List.replicate 8 (.int .u32 0))]⟩ := .mk' (by kernel_rfl) (by kernel_rfl) (fun _ => by kernel_rfl) (by kernel_rfl) (.inl rfl)
theorem ty44 : TyOK1 Go.Proofs.Try.prog 44 ⟨.array 32 5, 32, [.many 32 (List.replicate 32 (.int .u8 0))]⟩ := .mk' (by kernel_rfl) (by kernel_rfl) (fun _ => by kernel_rfl) (by kernel_rfl) (.inr (by kernel_rfl))
theorem ty56 : TyOK1 Go.Proofs.Try.prog 56 ⟨.array 64 5, 64, [.many 64 (List.replicate 64 (.int .u8 0))]⟩ := .mk' (by kernel_rfl) (by kernel_rfl) (fun _ => by kernel_rfl) (by kernel_rfl) (.inr (by kernel_rfl))
theorem ty65 : TyOK1 Go.Proofs.Try.prog 65 ⟨.pointer 89, 1, [.one (.pointer none)]⟩ := .mk' (by kernel_rfl) (by kernel_rfl) (fun _ => by kernel_rfl) (by kernel_rfl) (.inl rfl)
theorem ty67 : TyOK1 Go.Proofs.Try.prog 67 ⟨.int .u64, 1, [.one (.int .u64 0)]⟩ := .mk' (by kernel_rfl) (by kernel_rfl) (fun _ => by kernel_rfl) (by kernel_rfl) (.inl rfl)
theorem ty68 : TyOK1 Go.Proofs.Try.prog 68 ⟨.array 4 67, 4, [.many 4 (List.replicate 4 (.int .u64 0))]⟩ := .mk' (by kernel_rfl) (by kernel_rfl) (fun _ => by kernel_rfl) (by kernel_rfl) (.inr (by kernel_rfl))
theorem ty69 : TyOK1 Go.Proofs.Try.prog 69 ⟨.array 4 67, 4, [.many 4 (List.replicate 4 (.int .u64 0))]⟩ := .mk' (by kernel_rfl) (by kernel_rfl) (fun _ => by kernel_rfl) (by kernel_rfl) (.inr (by kernel_rfl))
theorem ty73 : TyOK1 Go.Proofs.Try.prog 73 ⟨.struct #[⟨"x", 69, 0, false, "", "strongbox/curve", 0⟩, ⟨"y", 69, 4, false, "", "strongbox/curve", 32⟩, ⟨"z", 69, 8, false, "", "strongbox/curve", 64⟩], 12, [.many 4 (List.replicate 4 (.int .u64 0)), .many 4 (List.replicate 4 (.int .u64 0)), .many 4 (List.replicate 4 (.int .u64 0))]⟩ := .mk' (by kernel_rfl) (by kernel_rfl) (fun _ => by kernel_rfl) (by kernel_rfl) (.inl rfl)
theorem ty74 : TyOK1 Go.Proofs.Try.prog 74 ⟨.struct #[⟨"x", 69, 0, false, "", "strongbox/curve", 0⟩, ⟨"y", 69, 4, false, "", "strongbox/curve", 32⟩, ⟨"z", 69, 8, false, "", "strongbox/curve", 64⟩], 12, [.many 4 (List.replicate 4 (.int .u64 0)), .many 4 (List.replicate 4 (.int .u64 0)), .many 4 (List.replicate 4 (.int .u64 0))]⟩ := .mk' (by kernel_rfl) (by kernel_rfl) (fun _ => by kernel_rfl) (by kernel_rfl) (.inl rfl)
theorem ty84 : TyOK1 Go.Proofs.Try.prog 84 ⟨.pointer 87, 1, [.one (.pointer none)]⟩ := .mk' (by kernel_rfl) (by kernel_rfl) (fun _ => by kernel_rfl) (by kernel_rfl) (.inl rfl)
theorem ty85 : TyOK1 Go.Proofs.Try.prog 85 ⟨.array 3 67, 3, [.many 3 (List.replicate 3 (.int .u64 0))]⟩ := .mk' (by kernel_rfl) (by kernel_rfl) (fun _ => by kernel_rfl) (by kernel_rfl) (.inr (by kernel_rfl))
theorem ty86 : TyOK1 Go.Proofs.Try.prog 86 ⟨.struct #[⟨"m", 69, 0, false, "", "strongbox/curve", 0⟩, ⟨"d", 85, 4, false, "", "strongbox/curve", 32⟩], 7, [.many 4 (List.replicate 4 (.int .u64 0)), .many 3 (List.replicate 3 (.int .u64 0))]⟩ := .mk' (by kernel_rfl) (by kernel_rfl) (fun _ => by kernel_rfl) (by kernel_rfl) (.inl rfl)
theorem ty87 : TyOK1 Go.Proofs.Try.prog 87 ⟨.struct #[⟨"m", 69, 0, false, "", "strongbox/curve", 0⟩, ⟨"d", 85, 4, false, "", "strongbox/curve", 32⟩], 7, [.many 4 (List.replicate 4 (.int .u64 0)), .many 3 (List.replicate 3 (.int .u64 0))]⟩ := .mk' (by kernel_rfl) (by kernel_rfl) (fun _ => by kernel_rfl) (by kernel_rfl) (.inl rfl)
theorem ty88 : TyOK1 Go.Proofs.Try.prog 88 ⟨.struct #[⟨"p", 87, 0, false, "", "strongbox/curve", 0⟩, ⟨"n", 87, 7, false, "", "strongbox/curve", 56⟩], 14, [.many 4 (List.replicate 4 (.int .u64 0)), .many 3 (List.replicate 3 (.int .u64 0)), .many 4 (List.replicate 4 (.int .u64 0)), .many 3 (List.replicate 3 (.int .u64 0))]⟩ := .mk' (by kernel_rfl) (by kernel_rfl) (fun _ => by kernel_rfl) (by kernel_rfl) (.inl rfl)
theorem ty89 : TyOK1 Go.Proofs.Try.prog 89 ⟨.struct #[⟨"p", 87, 0, false, "", "strongbox/curve", 0⟩, ⟨"n", 87, 7, false, "", "strongbox/curve", 56⟩], 14, [.many 4 (List.replicate 4 (.int .u64 0)), .many 3 (List.replicate 3 (.int .u64 0)), .many 4 (List.replicate 4 (.int .u64 0)), .many 3 (List.replicate 3 (.int .u64 0))]⟩ := .mk' (by kernel_rfl) (by kernel_rfl) (fun _ => by kernel_rfl) (by kernel_rfl) (.inl rfl)
theorem ty111 : TyOK1 Go.Proofs.Try.prog 111 ⟨.array 8 67, 8, [.many 8 (List.replicate 8 (.int .u64 0))]⟩ := .mk' (by kernel_rfl) (by kernel_rfl) (fun _ => by kernel_rfl) (by kernel_rfl) (.inr (by kernel_rfl))
theorem ty116 : TyOK1 Go.Proofs.Try.prog 116 ⟨.int .u64, 1, [.one (.int .u64 0)]⟩ := .mk' (by kernel_rfl) (by kernel_rfl) (fun _ => by kernel_rfl) (by kernel_rfl) (.inl rfl)
theorem ty117 : TyOK1 Go.Proofs.Try.prog 117 ⟨.pointer 74, 1, [.one (.pointer none)]⟩ := .mk' (by kernel_rfl) (by kernel_rfl) (fun _ => by kernel_rfl) (by kernel_rfl) (.inl rfl)
theorem ty118 : TyOK1 Go.Proofs.Try.prog 118 ⟨.array 17 35, 17, [.many 17 (List.replicate 17 (.int .u32 0))]⟩ := .mk' (by kernel_rfl) (by kernel_rfl) (fun _ => by kernel_rfl) (by kernel_rfl) (.inr (by kernel_rfl))
theorem ty119 : TyOK1 Go.Proofs.Try.prog 119 ⟨.array 17 35, 17, [.many 17 (List.replicate 17 (.int .u32 0))]⟩ := .mk' (by kernel_rfl) (by kernel_rfl) (fun _ => by kernel_rfl) (by kernel_rfl) (.inr (by kernel_rfl))
theorem ty123 : TyOK1 Go.Proofs.Try.prog 123 ⟨.array 8 35, 8, [.many 8 (List.replicate 8 (.int .u32 0))]⟩ := .mk' (by kernel_rfl) (by kernel_rfl) (fun _ => by kernel_rfl) (by kernel_rfl) (.inr (by kernel_rfl))
theorem ty124 : TyOK1 Go.Proofs.Try.prog 124 ⟨.struct #[⟨"state", 123, 0, false, "", "strongbox/hash", 0⟩, ⟨"wait", 23, 8, false, "", "strongbox/hash", 32⟩, ⟨"n", 67, 9, false, "", "strongbox/hash", 56⟩, ⟨"begun", 4, 10, false, "", "strongbox/hash", 64⟩], 11, [.many 8 (List.replicate 8 (.int .u32 0)), .one (.slice none 0 0), .one (.int .u64 0), .one (.bool false)]⟩ := .mk' (by kernel_rfl) (by kernel_rfl) (fun _ => by kernel_rfl) (by kernel_rfl) (.inl rfl)
theorem ty125 : TyOK1 Go.Proofs.Try.prog 125 ⟨.struct #[⟨"state", 123, 0, false, "", "strongbox/hash", 0⟩, ⟨"wait", 23, 8, false, "", "strongbox/hash", 32⟩, ⟨"n", 67, 9, false, "", "strongbox/hash", 56⟩, ⟨"begun", 4, 10, false, "", "strongbox/hash", 64⟩], 11, [.many 8 (List.replicate 8 (.int .u32 0)), .one (.slice none 0 0), .one (.int .u64 0), .one (.bool false)]⟩ := .mk' (by kernel_rfl) (by kernel_rfl) (fun _ => by kernel_rfl) (by kernel_rfl) (.inl rfl)
theorem ty130 : TyOK1 Go.Proofs.Try.prog 130 ⟨.pointer 125, 1, [.one (.pointer none)]⟩ := .mk' (by kernel_rfl) (by kernel_rfl) (fun _ => by kernel_rfl) (by kernel_rfl) (.inl rfl)
theorem ty132 : TyOK1 Go.Proofs.Try.prog 132 ⟨.array 64 35, 64, [.many 64 (List.replicate 64 (.int .u32 0))]⟩ := .mk' (by kernel_rfl) (by kernel_rfl) (fun _ => by kernel_rfl) (by kernel_rfl) (.inr (by kernel_rfl))
theorem ty135 : TyOK1 Go.Proofs.Try.prog 135 ⟨.pointer 132, 1, [.one (.pointer none)]⟩ := .mk' (by kernel_rfl) (by kernel_rfl) (fun _ => by kernel_rfl) (by kernel_rfl) (.inl rfl)
theorem ty137 : TyOK1 Go.Proofs.Try.prog 137 ⟨.pointer 123, 1, [.one (.pointer none)]⟩ := .mk' (by kernel_rfl) (by kernel_rfl) (fun _ => by kernel_rfl) (by kernel_rfl) (.inl rfl)
theorem ty139 : TyOK1 Go.Proofs.Try.prog 139 ⟨.slice 35, 1, [.one (.slice none 0 0)]⟩ := .mk' (by kernel_rfl) (by kernel_rfl) (fun _ => by kernel_rfl) (by kernel_rfl) (.inl rfl)
theorem ty143 : TyOK1 Go.Proofs.Try.prog 143 ⟨.struct #[⟨"_interface", 17, 0, false, "", "runtime", 0⟩, ⟨"concrete", 17, 1, false, "", "runtime", 8⟩, ⟨"asserted", 17, 2, false, "", "runtime", 16⟩, ⟨"missingMethod", 9, 3, false, "", "runtime", 24⟩], 4, [.one (.pointer none), .one (.pointer none), .one (.pointer none), .one (.string ByteArray.empty)]⟩ := .mk' (by kernel_rfl) (by kernel_rfl) (fun _ => by kernel_rfl) (by kernel_rfl) (.inl rfl)
theorem ty144 : TyOK1 Go.Proofs.Try.prog 144 ⟨.struct #[⟨"_interface", 17, 0, false, "", "runtime", 0⟩, ⟨"concrete", 17, 1, false, "", "runtime", 8⟩, ⟨"asserted", 17, 2, false, "", "runtime", 16⟩, ⟨"missingMethod", 9, 3, false, "", "runtime", 24⟩], 4, [.one (.pointer none), .one (.pointer none), .one (.pointer none), .one (.string ByteArray.empty)]⟩ := .mk' (by kernel_rfl) (by kernel_rfl) (fun _ => by kernel_rfl) (by kernel_rfl) (.inl rfl)
theorem ty145 : TyOK1 Go.Proofs.Try.prog 145 ⟨.array 0 16, 0, [.many 0 (List.replicate 0 (.pointer none))]⟩ := .mk' (by kernel_rfl) (by kernel_rfl) (fun _ => by kernel_rfl) (by kernel_rfl) (.inr (by kernel_rfl))
theorem ty146 : TyOK1 Go.Proofs.Try.prog 146 ⟨.struct #[⟨"_", 145, 0, false, "", "runtime", 0⟩], 0, [.many 0 (List.replicate 0 (.pointer none))]⟩ := .mk' (by kernel_rfl) (by kernel_rfl) (fun _ => by kernel_rfl) (by kernel_rfl) (.inl rfl)
theorem ty147 : TyOK1 Go.Proofs.Try.prog 147 ⟨.struct #[⟨"_", 145, 0, false, "", "runtime", 0⟩], 0, [.many 0 (List.replicate 0 (.pointer none))]⟩ := .mk' (by kernel_rfl) (by kernel_rfl) (fun _ => by kernel_rfl) (by kernel_rfl) (.inl rfl)
theorem ty149 : TyOK1 Go.Proofs.Try.prog 149 ⟨.int .u8, 1, [.one (.int .u8 0)]⟩ := .mk' (by kernel_rfl) (by kernel_rfl) (fun _ => by kernel_rfl) (by kernel_rfl) (.inl rfl)
theorem ty150 : TyOK1 Go.Proofs.Try.prog 150 ⟨.int .u8, 1, [.one (.int .u8 0)]⟩ := .mk' (by kernel_rfl) (by kernel_rfl) (fun _ => by kernel_rfl) (by kernel_rfl) (.inl rfl)
theorem ty152 : TyOK1 Go.Proofs.Try.prog 152 ⟨.pointer 5, 1, [.one (.pointer none)]⟩ := .mk' (by kernel_rfl) (by kernel_rfl) (fun _ => by kernel_rfl) (by kernel_rfl) (.inl rfl)
theorem ty153 : TyOK1 Go.Proofs.Try.prog 153 ⟨.int .i32, 1, [.one (.int .i32 0)]⟩ := .mk' (by kernel_rfl) (by kernel_rfl) (fun _ => by kernel_rfl) (by kernel_rfl) (.inl rfl)
theorem ty154 : TyOK1 Go.Proofs.Try.prog 154 ⟨.int .i32, 1, [.one (.int .i32 0)]⟩ := .mk' (by kernel_rfl) (by kernel_rfl) (fun _ => by kernel_rfl) (by kernel_rfl) (.inl rfl)
def tyList : List (Nat × TInfo) := [(2, ⟨.int .i64, 1, [.one (.int .i64 0)]⟩),
  (3, ⟨.int .i64, 1, [.one (.int .i64 0)]⟩),
  (4, ⟨.bool, 1, [.one (.bool false)]⟩),
  (5, ⟨.int .u8, 1, [.one (.int .u8 0)]⟩),
  (6, ⟨.int .u8, 1, [.one (.int .u8 0)]⟩),
  (7, ⟨.struct #[⟨"x", 2, 0, false, "", "runtime", 0⟩, ⟨"y", 3, 1, false, "", "runtime", 8⟩, ⟨"signed", 4, 2, false, "", "runtime", 16⟩, ⟨"code", 6, 3, false, "", "runtime", 17⟩], 4, [.one (.int .i64 0), .one (.int .i64 0), .one (.bool false), .one (.int .u8 0)]⟩),
  (8, ⟨.struct #[⟨"x", 2, 0, false, "", "runtime", 0⟩, ⟨"y", 3, 1, false, "", "runtime", 8⟩, ⟨"signed", 4, 2, false, "", "runtime", 16⟩, ⟨"code", 6, 3, false, "", "runtime", 17⟩], 4, [.one (.int .i64 0), .one (.int .i64 0), .one (.bool false), .one (.int .u8 0)]⟩),
  (9, ⟨.string, 1, [.one (.string ByteArray.empty)]⟩),
  (10, ⟨.string, 1, [.one (.string ByteArray.empty)]⟩),
  (11, ⟨.string, 1, [.one (.string ByteArray.empty)]⟩),
  (12, ⟨.int .u64, 1, [.one (.int .u64 0)]⟩),
  (13, ⟨.struct #[⟨"msg", 9, 0, false, "", "runtime", 0⟩, ⟨"addr", 12, 1, false, "", "runtime", 16⟩], 2, [.one (.string ByteArray.empty), .one (.int .u64 0)]⟩),
  (14, ⟨.struct #[⟨"msg", 9, 0, false, "", "runtime", 0⟩, ⟨"addr", 12, 1, false, "", "runtime", 16⟩], 2, [.one (.string ByteArray.empty), .one (.int .u64 0)]⟩),
  (15, ⟨.pointer 144, 1, [.one (.pointer none)]⟩),
  (16, ⟨.pointer 147, 1, [.one (.pointer none)]⟩),
  (17, ⟨.pointer 156, 1, [.one (.pointer none)]⟩),
  (18, ⟨.struct #[⟨"typ", 17, 0, false, "", "internal/runtime/maps", 0⟩], 1, [.one (.pointer none)]⟩),
  (19, ⟨.struct #[⟨"typ", 17, 0, false, "", "internal/runtime/maps", 0⟩], 1, [.one (.pointer none)]⟩),
  (21, ⟨.int .i32, 1, [.one (.int .i32 0)]⟩),
  (22, ⟨.array 32 5, 32, [.many 32 (List.replicate 32 (.int .u8 0))]⟩),
  (23, ⟨.slice 5, 1, [.one (.slice none 0 0)]⟩),
  (25, ⟨.array 33 5, 33, [.many 33 (List.replicate 33 (.int .u8 0))]⟩),
  (26, ⟨.int .i64, 1, [.one (.int .i64 0)]⟩),
  (35, ⟨.int .u32, 1, [.one (.int .u32 0)]⟩),
  (36, ⟨.array 8 35, 8, [.many 8 (List.replicate 8 (.int .u32 0))]⟩),
  (37, ⟨.array 8 35, 8, [.many 8 (List.replicate 8 (.int .u32 0))]⟩),
  (38, ⟨.struct #[⟨"X", 37, 0, false, "", "", 0⟩, ⟨"Y", 37, 8, false, "", "", 32⟩, ⟨"Z", 37, 16, false, "", "", 64⟩], 24, [.many 8 (List.replicate 8 (.int .u32 0)), .many 8 (List.replicate 8 (.int .u32 0)), .many 8 (List.replicate 8 (.int .u32 0))]⟩),
  (39, ⟨.struct #[⟨"X", 37, 0, false, "", "", 0⟩, ⟨"Y", 37, 8, false, "", "", 32⟩, ⟨"Z", 37, 16, false, "", "", 64⟩], 24, [.many 8 (List.replicate 8 (.int .u32 0)), .many 8 (List.replicate 8 (.int .u32 0)), .many 8 (List.replicate 8 (.int .u32 0))]⟩),
  (44, ⟨.array 32 5, 32, [.many 32 (List.replicate 32 (.int .u8 0))]⟩),
  (56, ⟨.array 64 5, 64, [.many 64 (List.replicate 64 (.int .u8 0))]⟩),
  (65, ⟨.pointer 89, 1, [.one (.pointer none)]⟩),
  (67, ⟨.int .u64, 1, [.one (.int .u64 0)]⟩),
  (68, ⟨.array 4 67, 4, [.many 4 (List.replicate 4 (.int .u64 0))]⟩),
  (69, ⟨.array 4 67, 4, [.many 4 (List.replicate 4 (.int .u64 0))]⟩),
  (73, ⟨.struct #[⟨"x", 69, 0, false, "", "strongbox/curve", 0⟩, ⟨"y", 69, 4, false, "", "strongbox/curve", 32⟩, ⟨"z", 69, 8, false, "", "strongbox/curve", 64⟩], 12, [.many 4 (List.replicate 4 (.int .u64 0)), .many 4 (List.replicate 4 (.int .u64 0)), .many 4 (List.replicate 4 (.int .u64 0))]⟩),
  (74, ⟨.struct #[⟨"x", 69, 0, false, "", "strongbox/curve", 0⟩, ⟨"y", 69, 4, false, "", "strongbox/curve", 32⟩, ⟨"z", 69, 8, false, "", "strongbox/curve", 64⟩], 12, [.many 4 (List.replicate 4 (.int .u64 0)), .many 4 (List.replicate 4 (.int .u64 0)), .many 4 (List.replicate 4 (.int .u64 0))]⟩),
  (84, ⟨.pointer 87, 1, [.one (.pointer none)]⟩),
  (85, ⟨.array 3 67, 3, [.many 3 (List.replicate 3 (.int .u64 0))]⟩),
  (86, ⟨.struct #[⟨"m", 69, 0, false, "", "strongbox/curve", 0⟩, ⟨"d", 85, 4, false, "", "strongbox/curve", 32⟩], 7, [.many 4 (List.replicate 4 (.int .u64 0)), .many 3 (List.replicate 3 (.int .u64 0))]⟩),
  (87, ⟨.struct #[⟨"m", 69, 0, false, "", "strongbox/curve", 0⟩, ⟨"d", 85, 4, false, "", "strongbox/curve", 32⟩], 7, [.many 4 (List.replicate 4 (.int .u64 0)), .many 3 (List.replicate 3 (.int .u64 0))]⟩),
  (88, ⟨.struct #[⟨"p", 87, 0, false, "", "strongbox/curve", 0⟩, ⟨"n", 87, 7, false, "", "strongbox/curve", 56⟩], 14, [.many 4 (List.replicate 4 (.int .u64 0)), .many 3 (List.replicate 3 (.int .u64 0)), .many 4 (List.replicate 4 (.int .u64 0)), .many 3 (List.replicate 3 (.int .u64 0))]⟩),
  (89, ⟨.struct #[⟨"p", 87, 0, false, "", "strongbox/curve", 0⟩, ⟨"n", 87, 7, false, "", "strongbox/curve", 56⟩], 14, [.many 4 (List.replicate 4 (.int .u64 0)), .many 3 (List.replicate 3 (.int .u64 0)), .many 4 (List.replicate 4 (.int .u64 0)), .many 3 (List.replicate 3 (.int .u64 0))]⟩),
  (111, ⟨.array 8 67, 8, [.many 8 (List.replicate 8 (.int .u64 0))]⟩),
  (116, ⟨.int .u64, 1, [.one (.int .u64 0)]⟩),
  (117, ⟨.pointer 74, 1, [.one (.pointer none)]⟩),
  (118, ⟨.array 17 35, 17, [.many 17 (List.replicate 17 (.int .u32 0))]⟩),
  (119, ⟨.array 17 35, 17, [.many 17 (List.replicate 17 (.int .u32 0))]⟩),
  (123, ⟨.array 8 35, 8, [.many 8 (List.replicate 8 (.int .u32 0))]⟩),
  (124, ⟨.struct #[⟨"state", 123, 0, false, "", "strongbox/hash", 0⟩, ⟨"wait", 23, 8, false, "", "strongbox/hash", 32⟩, ⟨"n", 67, 9, false, "", "strongbox/hash", 56⟩, ⟨"begun", 4, 10, false, "", "strongbox/hash", 64⟩], 11, [.many 8 (List.replicate 8 (.int .u32 0)), .one (.slice none 0 0), .one (.int .u64 0), .one (.bool false)]⟩),
  (125, ⟨.struct #[⟨"state", 123, 0, false, "", "strongbox/hash", 0⟩, ⟨"wait", 23, 8, false, "", "strongbox/hash", 32⟩, ⟨"n", 67, 9, false, "", "strongbox/hash", 56⟩, ⟨"begun", 4, 10, false, "", "strongbox/hash", 64⟩], 11, [.many 8 (List.replicate 8 (.int .u32 0)), .one (.slice none 0 0), .one (.int .u64 0), .one (.bool false)]⟩),
  (130, ⟨.pointer 125, 1, [.one (.pointer none)]⟩),
  (132, ⟨.array 64 35, 64, [.many 64 (List.replicate 64 (.int .u32 0))]⟩),
  (135, ⟨.pointer 132, 1, [.one (.pointer none)]⟩),
  (137, ⟨.pointer 123, 1, [.one (.pointer none)]⟩),
  (139, ⟨.slice 35, 1, [.one (.slice none 0 0)]⟩),
  (143, ⟨.struct #[⟨"_interface", 17, 0, false, "", "runtime", 0⟩, ⟨"concrete", 17, 1, false, "", "runtime", 8⟩, ⟨"asserted", 17, 2, false, "", "runtime", 16⟩, ⟨"missingMethod", 9, 3, false, "", "runtime", 24⟩], 4, [.one (.pointer none), .one (.pointer none), .one (.pointer none), .one (.string ByteArray.empty)]⟩),
  (144, ⟨.struct #[⟨"_interface", 17, 0, false, "", "runtime", 0⟩, ⟨"concrete", 17, 1, false, "", "runtime", 8⟩, ⟨"asserted", 17, 2, false, "", "runtime", 16⟩, ⟨"missingMethod", 9, 3, false, "", "runtime", 24⟩], 4, [.one (.pointer none), .one (.pointer none), .one (.pointer none), .one (.string ByteArray.empty)]⟩),
  (145, ⟨.array 0 16, 0, [.many 0 (List.replicate 0 (.pointer none))]⟩),
  (146, ⟨.struct #[⟨"_", 145, 0, false, "", "runtime", 0⟩], 0, [.many 0 (List.replicate 0 (.pointer none))]⟩),
  (147, ⟨.struct #[⟨"_", 145, 0, false, "", "runtime", 0⟩], 0, [.many 0 (List.replicate 0 (.pointer none))]⟩),
  (149, ⟨.int .u8, 1, [.one (.int .u8 0)]⟩),
  (150, ⟨.int .u8, 1, [.one (.int .u8 0)]⟩),
  (152, ⟨.pointer 5, 1, [.one (.pointer none)]⟩),
  (153, ⟨.int .i32, 1, [.one (.int .i32 0)]⟩),
  (154, ⟨.int .i32, 1, [.one (.int .i32 0)]⟩)]
def Γ : TyEnv := Go.SX.look tyList
theorem tyOK : TyOK Go.Proofs.Try.prog Γ := tyOK_of (by
  intro p hp
  simp only [tyList, List.mem_cons, List.not_mem_nil, or_false] at hp
  rcases hp with rfl | rfl | rfl | rfl | rfl | rfl | rfl | rfl | rfl | rfl | rfl | rfl | rfl | rfl | rfl | rfl | rfl | rfl | rfl | rfl | rfl | rfl | rfl | rfl | rfl | rfl | rfl | rfl | rfl | rfl | rfl | rfl | rfl | rfl | rfl | rfl | rfl | rfl | rfl | rfl | rfl | rfl | rfl | rfl | rfl | rfl | rfl | rfl | rfl | rfl | rfl | rfl | rfl | rfl | rfl | rfl | rfl | rfl | rfl | rfl | rfl | rfl | rfl | rfl | rfl
  · exact ty2
  · exact ty3
  · exact ty4
  · exact ty5
  · exact ty6
  · exact ty7
  · exact ty8
  · exact ty9
  · exact ty10
  · exact ty11
  · exact ty12
  · exact ty13
  · exact ty14
  · exact ty15
  · exact ty16
  · exact ty17
  · exact ty18
  · exact ty19
  · exact ty21
  · exact ty22
  · exact ty23
  · exact ty25
  · exact ty26
  · exact ty35
  · exact ty36
  · exact ty37
  · exact ty38
  · exact ty39
  · exact ty44
  · exact ty56
  · exact ty65
  · exact ty67
  · exact ty68
  · exact ty69
  · exact ty73
  · exact ty74
  · exact ty84
  · exact ty85
  · exact ty86
  · exact ty87
  · exact ty88
  · exact ty89
  · exact ty111
  · exact ty116
  · exact ty117
  · exact ty118
  · exact ty119
  · exact ty123
  · exact ty124
  · exact ty125
  · exact ty130
  · exact ty132
  · exact ty135
  · exact ty137
  · exact ty139
  · exact ty143
  · exact ty144
  · exact ty145
  · exact ty146
  · exact ty147
  · exact ty149
  · exact ty150
  · exact ty152
  · exact ty153
  · exact ty154)
theorem mixed : Go.Proofs.Try.prog.follows .mixedOrders = true := by kernel_rfl
end Go.Proofs.Ythjpppgibdfaeaa
