/- Printed by program (gen.py): what each function does over the abstract heap, as one equation a piece. No condition. -/
import Derived.Test.YtaaacaejpchbpaaGreatTab
import Derived.KernelRfl
set_option linter.unusedVariables false
set_option maxRecDepth 100000
namespace Go.Proofs.YtaaacaejpchbpaaGreat
namespace Ab
open Go
theorem pemmicanlaw40_BatchSplits_eq {pr : Prims} (hp : pr 7 = none) (k : Nat) (x0 : Option Addr) (x0n : Nat) (x0c : Nat) (x1 : Int) (h : Heap) : pemmicanlaw40_BatchSplits pr (k + 1) x0 x0n x0c x1 h = (
 cl (pemmicanlaw40_awake pr k h) fun v1 h2 =>
 cB v1 fun b3 =>
 cond (!b3)
 (some ((.bool false), h2))
 (cond (decide ((x0n : Int) > 300))
 (some ((.bool true), h2))
 (pemmicanlaw40_BatchSplits_506 pr k x0 x0n x0c x1 (mnV (mxV x1 1) 512) false x0 x0n x0c (x0n : Int) 0 h2))) := (run_step hp _ _ _ _).trans (by kernel_rfl)
theorem pemmicanlaw40_BatchSplits_506_eq {pr : Prims} (hp : pr 7 = none) (k : Nat) (x0 : Option Addr) (x0n : Nat) (x0c : Nat) (x1 : Int) (x5 : Int) (x6 : Bool) (x23 : Option Addr) (x23n : Nat) (x23c : Nat) (x24 : Int) (x25 : Int) (h : Heap) : pemmicanlaw40_BatchSplits_506 pr (k + 1) x0 x0n x0c x1 x5 x6 x23 x23n x23c x24 x25 h = (
 cond (decide (x25 < x24))
 (inb x25 x23n <|
 nn x23 fun a4 =>
 ldS h (some (Addr.add a4 (Int.toNat x25 * 1))) 0 fun s5 =>
 cond (decide ((ByteArray.size s5 : Int) > 100))
 (some ((.bool true), h))
 (cond x6
 (pemmicanlaw40_BatchSplits_506 pr k x0 x0n x0c x1 x5 true x23 x23n x23c x24 (IntKind.wrap .i64 (x25 + 1)) h)
 (pemmicanlaw40_BatchSplits_506 pr k x0 x0n x0c x1 x5 (decide ((ByteArray.size s5 : Int) > x5)) x23 x23n x23c x24 (IntKind.wrap .i64 (x25 + 1)) h)))
 (cl (batch_Split pr k x0 x0n x0c x1 h) fun v6 h7 =>
 cT v6 fun l8 =>
 uc l8 fun v9 l10 =>
 cL v9 fun s11 s11n s11c =>
 uc l10 fun v12 l13 =>
 cI .i64 v12 fun i14 =>
 ue l13 <|
 cond x6
 (cond ((s11n : Int) == 0)
 (some ((.bool (i14 == 5)), h7))
 (some ((.bool false), h7)))
 (pemmicanlaw40_BatchSplits_8186 pr k x0 x0n x0c x5 s11 s11n s11c i14 none 0 0 s11 s11n s11c (s11n : Int) 0 h7))) := (run_step hp _ _ _ _).trans (by kernel_rfl)
theorem pemmicanlaw40_BatchSplits_8186_eq {pr : Prims} (hp : pr 7 = none) (k : Nat) (x0 : Option Addr) (x0n : Nat) (x0c : Nat) (x5 : Int) (x9 : Option Addr) (x9n : Nat) (x9c : Nat) (x10 : Int) (x11 : Option Addr) (x11n : Nat) (x11c : Nat) (x54 : Option Addr) (x54n : Nat) (x54c : Nat) (x55 : Int) (x56 : Int) (h : Heap) : pemmicanlaw40_BatchSplits_8186 pr (k + 1) x0 x0n x0c x5 x9 x9n x9c x10 x11 x11n x11c x54 x54n x54c x55 x56 h = (
 cond (decide (x56 < x55))
 (inb x56 x54n <|
 nn x54 fun a15 =>
 ldD h (some (Addr.add a15 (Int.toNat x56 * 1))) 0 fun d16 d16n d16c =>
 cond ((d16n : Int) == 0)
 (some ((.bool false), h))
 (cond (decide ((d16n : Int) > 100))
 (some ((.bool false), h))
 (cl (pemmicanref18_Bytes pr k d16 d16n d16c h) fun v17 h18 =>
 cI .i64 v17 fun i19 =>
 cond (decide (i19 > x5))
 (some ((.bool false), h18))
 (cond (decide (x56 > 0))
 (inb (IntKind.wrap .i64 (x56 - 1)) x9n <|
 nn x9 fun a20 =>
 ldD h18 (some (Addr.add a20 (Int.toNat (IntKind.wrap .i64 (x56 - 1)) * 1))) 0 fun d21 d21n d21c =>
 cond (decide ((d21n : Int) < 100))
 (inb 0 d16n <|
 nn d16 fun a22 =>
 ldS h18 (some (Addr.add a22 (Int.toNat 0 * 1))) 0 fun s23 =>
 cl (pemmicanref18_Bytes pr k d21 d21n d21c h18) fun v24 h25 =>
 cI .i64 v24 fun i26 =>
 chk (.cells (some (Addr.add a22 (Int.toNat 0 * 1))) [(.string s23)]) h25 <|
 cond (decide ((IntKind.wrap .i64 (i26 + (ByteArray.size s23 : Int))) ≤ x5))
 (some ((.bool false), h25))
 (pemmicanlaw40_BatchSplits_2095719 pr k x0 x0n x0c x5 x9 x9n x9c x10 x11 x11n x11c d16 d16n d16c x54 x54n x54c x55 x56 h25))
 (pemmicanlaw40_BatchSplits_2095719 pr k x0 x0n x0c x5 x9 x9n x9c x10 x11 x11n x11c d16 d16n d16c x54 x54n x54c x55 x56 h18))
 (pemmicanlaw40_BatchSplits_2095719 pr k x0 x0n x0c x5 x9 x9n x9c x10 x11 x11n x11c d16 d16n d16c x54 x54n x54c x55 x56 h18)))))
 (cond (x10 == 0)
 (cl (pemmicanlaw40_same pr k x11 x11n x11c x0 x0n x0c h) fun v27 h28 =>
 cB v27 fun b29 =>
 some ((.bool b29), h28))
 (some ((.bool false), h)))) := (run_step hp _ _ _ _).trans (by kernel_rfl)
theorem pemmicanlaw40_BatchSplits_2095719_eq {pr : Prims} (hp : pr 7 = none) (k : Nat) (x0 : Option Addr) (x0n : Nat) (x0c : Nat) (x5 : Int) (x9 : Option Addr) (x9n : Nat) (x9c : Nat) (x10 : Int) (x11 : Option Addr) (x11n : Nat) (x11c : Nat) (x13 : Option Addr) (x13n : Nat) (x13c : Nat) (x54 : Option Addr) (x54n : Nat) (x54c : Nat) (x55 : Int) (x56 : Int) (h : Heap) : pemmicanlaw40_BatchSplits_2095719 pr (k + 1) x0 x0n x0c x5 x9 x9n x9c x10 x11 x11n x11c x13 x13n x13c x54 x54n x54c x55 x56 h = (
 src h 1 (.slice x13 x13n x13c) fun l30 =>
 app h 1 1 16 x11 x11n x11c x13n l30 fun d31 d31n d31c h32 =>
 pemmicanlaw40_BatchSplits_8186 pr k x0 x0n x0c x5 x9 x9n x9c x10 d31 d31n d31c x54 x54n x54c x55 (IntKind.wrap .i64 (x56 + 1)) h32) := (run_step hp _ _ _ _).trans (by kernel_rfl)
theorem pemmicanref18_Bytes_eq {pr : Prims} (hp : pr 28 = none) (k : Nat) (x0 : Option Addr) (x0n : Nat) (x0c : Nat) (h : Heap) : pemmicanref18_Bytes pr (k + 1) x0 x0n x0c h = (
 pemmicanref18_Bytes_58 pr k x0 x0n x0c 0 0 h) := (run_step hp _ _ _ _).trans (by kernel_rfl)
theorem pemmicanref18_Bytes_58_eq {pr : Prims} (hp : pr 28 = none) (k : Nat) (x0 : Option Addr) (x0n : Nat) (x0c : Nat) (x3 : Int) (x4 : Int) (h : Heap) : pemmicanref18_Bytes_58 pr (k + 1) x0 x0n x0c x3 x4 h = (
 cond (decide (x4 < (x0n : Int)))
 (inb x4 x0n <|
 nn x0 fun a1 =>
 ldS h (some (Addr.add a1 (Int.toNat x4 * 1))) 0 fun s2 =>
 pemmicanref18_Bytes_58 pr k x0 x0n x0c (IntKind.wrap .i64 (x3 + (ByteArray.size s2 : Int))) (IntKind.wrap .i64 (x4 + 1)) h)
 (some ((.int .i64 x3), h))) := (run_step hp _ _ _ _).trans (by kernel_rfl)
theorem pemmicanlaw40_same_eq {pr : Prims} (hp : pr 33 = none) (k : Nat) (x0 : Option Addr) (x0n : Nat) (x0c : Nat) (x1 : Option Addr) (x1n : Nat) (x1c : Nat) (h : Heap) : pemmicanlaw40_same pr (k + 1) x0 x0n x0c x1 x1n x1c h = (
 cond ((x0n : Int) != (x1n : Int))
 (some ((.bool false), h))
 (pemmicanlaw40_same_58 pr k x0 x0n x0c x1 x1n x1c (x0n : Int) 0 h)) := (run_step hp _ _ _ _).trans (by kernel_rfl)
theorem pemmicanlaw40_same_58_eq {pr : Prims} (hp : pr 33 = none) (k : Nat) (x0 : Option Addr) (x0n : Nat) (x0c : Nat) (x1 : Option Addr) (x1n : Nat) (x1c : Nat) (x12 : Int) (x13 : Int) (h : Heap) : pemmicanlaw40_same_58 pr (k + 1) x0 x0n x0c x1 x1n x1c x12 x13 h = (
 cond (decide (x13 < x12))
 (inb x13 x0n <|
 nn x0 fun a1 =>
 ldS h (some (Addr.add a1 (Int.toNat x13 * 1))) 0 fun s2 =>
 inb x13 x1n <|
 nn x1 fun a3 =>
 ldS h (some (Addr.add a3 (Int.toNat x13 * 1))) 0 fun s4 =>
 cond (!(ByteArray.toList s2 == ByteArray.toList s4))
 (some ((.bool false), h))
 (pemmicanlaw40_same_58 pr k x0 x0n x0c x1 x1n x1c x12 (IntKind.wrap .i64 (x13 + 1)) h))
 (some ((.bool true), h))) := (run_step hp _ _ _ _).trans (by kernel_rfl)
theorem batch_Split_eq {pr : Prims} (hp : pr 35 = none) (k : Nat) (x0 : Option Addr) (x0n : Nat) (x0c : Nat) (x1 : Int) (h : Heap) : batch_Split pr (k + 1) x0 x0n x0c x1 h = (
 batch_Split_250 pr k (mnV (mxV x1 1) 512) none 0 0 none 0 0 x0 x0n x0c (x0n : Int) 0 h) := (run_step hp _ _ _ _).trans (by kernel_rfl)
theorem batch_Split_250_eq {pr : Prims} (hp : pr 35 = none) (k : Nat) (x1 : Int) (x6 : Option Addr) (x6n : Nat) (x6c : Nat) (x7 : Option Addr) (x7n : Nat) (x7c : Nat) (x13 : Option Addr) (x13n : Nat) (x13c : Nat) (x14 : Int) (x15 : Int) (h : Heap) : batch_Split_250 pr (k + 1) x1 x6 x6n x6c x7 x7n x7c x13 x13n x13c x14 x15 h = (
 cond (decide (x15 < x14))
 (inb x15 x13n <|
 nn x13 fun a1 =>
 ldS h (some (Addr.add a1 (Int.toNat x15 * 1))) 0 fun s2 =>
 cond (decide ((ByteArray.size s2 : Int) > x1))
 (some ((.tuple ⟨[(.slice none 0 0), (.int .i64 5)]⟩), h))
 (cond ((x7n : Int) == 100)
 (batch_Split_128205 pr k x1 x6 x6n x6c x7 x7n x7c s2 x13 x13n x13c x14 x15 true h)
 (cl (batch_size pr k x7 x7n x7c h) fun v3 h4 =>
 cI .i64 v3 fun i5 =>
 batch_Split_128205 pr k x1 x6 x6n x6c x7 x7n x7c s2 x13 x13n x13c x14 x15 (decide ((IntKind.wrap .i64 (i5 + (ByteArray.size s2 : Int))) > x1)) h4)))
 (cond (decide ((x7n : Int) > 0))
 (let h6 := h.push (.cells [(.slice x7 x7n x7c)] 1 false)
 src h6 1 (.slice (some ⟨h.size, 0, none⟩) 1 1) fun l7 =>
 app h6 1 1 24 x6 x6n x6c 1 l7 fun d8 d8n d8c h9 =>
 some ((.tuple ⟨[(.slice d8 d8n d8c), (.int .i64 0)]⟩), h9))
 (some ((.tuple ⟨[(.slice x6 x6n x6c), (.int .i64 0)]⟩), h)))) := (run_step hp _ _ _ _).trans (by kernel_rfl)
theorem batch_Split_128205_eq {pr : Prims} (hp : pr 35 = none) (k : Nat) (x1 : Int) (x6 : Option Addr) (x6n : Nat) (x6c : Nat) (x7 : Option Addr) (x7n : Nat) (x7c : Nat) (x9 : ByteArray) (x13 : Option Addr) (x13n : Nat) (x13c : Nat) (x14 : Int) (x15 : Int) (x34 : Bool) (h : Heap) : batch_Split_128205 pr (k + 1) x1 x6 x6n x6c x7 x7n x7c x9 x13 x13n x13c x14 x15 x34 h = (
 cond x34
 (let h10 := h.push (.cells [(.slice x7 x7n x7c)] 1 false)
 src h10 1 (.slice (some ⟨h.size, 0, none⟩) 1 1) fun l11 =>
 app h10 1 1 24 x6 x6n x6c 1 l11 fun d12 d12n d12c h13 =>
 batch_Split_64103 pr k x1 d12 d12n d12c none 0 0 x9 x13 x13n x13c x14 x15 h13)
 (batch_Split_64103 pr k x1 x6 x6n x6c x7 x7n x7c x9 x13 x13n x13c x14 x15 h)) := (run_step hp _ _ _ _).trans (by kernel_rfl)
theorem batch_Split_64103_eq {pr : Prims} (hp : pr 35 = none) (k : Nat) (x1 : Int) (x6 : Option Addr) (x6n : Nat) (x6c : Nat) (x7 : Option Addr) (x7n : Nat) (x7c : Nat) (x9 : ByteArray) (x13 : Option Addr) (x13n : Nat) (x13c : Nat) (x14 : Int) (x15 : Int) (h : Heap) : batch_Split_64103 pr (k + 1) x1 x6 x6n x6c x7 x7n x7c x9 x13 x13n x13c x14 x15 h = (
 let h14 := h.push (.cells [(.string x9)] 1 false)
 src h14 1 (.slice (some ⟨h.size, 0, none⟩) 1 1) fun l15 =>
 app h14 1 1 16 x7 x7n x7c 1 l15 fun d16 d16n d16c h17 =>
 batch_Split_250 pr k x1 x6 x6n x6c d16 d16n d16c x13 x13n x13c x14 (IntKind.wrap .i64 (x15 + 1)) h17) := (run_step hp _ _ _ _).trans (by kernel_rfl)
theorem batch_size_eq {pr : Prims} (hp : pr 79 = none) (k : Nat) (x0 : Option Addr) (x0n : Nat) (x0c : Nat) (h : Heap) : batch_size pr (k + 1) x0 x0n x0c h = (
 batch_size_58 pr k 0 x0 x0n x0c (x0n : Int) 0 h) := (run_step hp _ _ _ _).trans (by kernel_rfl)
theorem batch_size_58_eq {pr : Prims} (hp : pr 79 = none) (k : Nat) (x3 : Int) (x6 : Option Addr) (x6n : Nat) (x6c : Nat) (x7 : Int) (x8 : Int) (h : Heap) : batch_size_58 pr (k + 1) x3 x6 x6n x6c x7 x8 h = (
 cond (decide (x8 < x7))
 (inb x8 x6n <|
 nn x6 fun a1 =>
 ldS h (some (Addr.add a1 (Int.toNat x8 * 1))) 0 fun s2 =>
 batch_size_58 pr k (IntKind.wrap .i64 (x3 + (ByteArray.size s2 : Int))) x6 x6n x6c x7 (IntKind.wrap .i64 (x8 + 1)) h)
 (some ((.int .i64 x3), h))) := (run_step hp _ _ _ _).trans (by kernel_rfl)
theorem chain_New_eq {pr : Prims} (hp : pr 167 = none) (k : Nat) (x0 : ByteArray) (h : Heap) : chain_New pr (k + 1) x0 h = (
 bnd (mnV (ByteArray.size x0 : Int) 2000) (ByteArray.size x0) fun i1 =>
 let h2 := h.push (.cells [(.string (ByteArray.extract x0 0 i1)), (.slice none 0 0), (.slice none 0 0), (.slice none 0 0)] 0 false)
 mkS h2 1024 1024 1 8 [(.int .i64 0)] fun h3 =>
 st h3 (some (Addr.add ⟨h.size, 0, none⟩ 1)) [(.slice (some ⟨h2.size, 0, none⟩) (Int.toNat 1024) (Int.toNat 1024))] fun h4 =>
 ldD h4 (some (Addr.add ⟨h.size, 0, none⟩ 1)) 0 fun d5 d5n d5c =>
 chain_New_122 pr k (some ⟨h.size, 0, none⟩) (d5n : Int) 0 h4) := (run_step hp _ _ _ _).trans (by kernel_rfl)
theorem chain_New_122_eq {pr : Prims} (hp : pr 167 = none) (k : Nat) (x3 : Option Addr) (x20 : Int) (x21 : Int) (h : Heap) : chain_New_122 pr (k + 1) x3 x20 x21 h = (
 cond (decide (x21 < x20))
 (nn x3 fun a6 =>
 ldD h (some (Addr.add a6 1)) 0 fun d7 d7n d7c =>
 inb x21 d7n <|
 nn d7 fun a8 =>
 st h (some (Addr.add a8 (Int.toNat x21 * 1))) [(.int .i64 (-1))] fun h9 =>
 chain_New_122 pr k x3 x20 (IntKind.wrap .i64 (x21 + 1)) h9)
 (nn x3 fun a10 =>
 ldS h (some a10) 0 fun s11 =>
 mkS h (ByteArray.size s11 : Int) (ByteArray.size s11 : Int) 1 8 [(.int .i64 0)] fun h12 =>
 nn x3 fun a13 =>
 ldS h12 (some a13) 0 fun s14 =>
 mkS h12 (ByteArray.size s14 : Int) (ByteArray.size s14 : Int) 1 1 [(.bool false)] fun h15 =>
 nn x3 fun a16 =>
 st h15 (some (Addr.add a16 2)) [(.slice (some ⟨h.size, 0, none⟩) (Int.toNat (ByteArray.size s11 : Int)) (Int.toNat (ByteArray.size s11 : Int)))] fun h17 =>
 chk (.obj h12.size (h15.get h12.size)) h17 <|
 nn x3 fun a18 =>
 st h17 (some (Addr.add a18 3)) [(.slice (some ⟨h12.size, 0, none⟩) (Int.toNat (ByteArray.size s14 : Int)) (Int.toNat (ByteArray.size s14 : Int)))] fun h19 =>
 some ((.pointer x3), h19))) := (run_step hp _ _ _ _).trans (by kernel_rfl)
end Ab
end Go.Proofs.YtaaacaejpchbpaaGreat
