/- Own texts, part 9. -/
import Derived.Test.YtdajfgkcpflacaaGreatPart8
import Derived.Test.YtdajfgkcpflacaaGreatPart6

namespace Go.Abs
open Go.Proofs Go.Proofs.K17 Go.Proofs.D17 Go.RowKit
theorem z80 (n : Nat) (r : AV) : (pureW PA GA XG (tbl []) (itbl []) (zA80 n) [] 80 [.int .u64 n] (r, [])) =
((∃ (y : Nat), ValsAre [.int .u64 (↑n : Int), .int .i64 0, .int .u64 (↑n : Int)] [.int .u64 (↑n : Int), .int .i64 (↑y : Int), .int .u64 (↑(n / (2 : Nat) ^ y) : Int)] ∧ StIs { boxes := [], live := [] } { boxes := [], live := [] } ∧ y ≤ Lib.bitLen n ∧ True) ∧ ∀ (x : Nat), x ≤ Lib.bitLen n → (decide ((↑(n / (2 : Nat) ^ x) : Int) > (0 : Int)) = true → (2 : Int) ≠ (0 : Int) ∧ ∃ (y : Nat), ValsAre [.int .u64 (↑n : Int), .int .i64 (IntKind.i64.wrap ((↑x : Int) + (1 : Int))), .int .u64 (IntKind.u64.wrap ((↑(n / (2 : Nat) ^ x) : Int).tdiv (2 : Int)))] [.int .u64 (↑n : Int), .int .i64 (↑y : Int), .int .u64 (↑(n / (2 : Nat) ^ y) : Int)] ∧ StIs { boxes := [], live := [] } { boxes := [], live := [] } ∧ y ≤ Lib.bitLen n ∧ Lib.bitLen n - y < Lib.bitLen n - x) ∧ (decide ((↑(n / (2 : Nat) ^ x) : Int) > (0 : Int)) = false → (decide ((↑x : Int) < (6 : Int)) = true → RetIs (AV.int IntKind.i64 (IntKind.i64.wrap (↑n : Int))) [] (r, [])) ∧ (decide ((↑x : Int) < (6 : Int)) = false → (∃ (y : Nat), ValsAre [.int .u64 (↑n : Int), .int .i64 (IntKind.i64.wrap ((↑x : Int) - (6 : Int))), .int .i64 0] [.int .u64 (↑(n / (2 : Nat) ^ y) : Int), .int .i64 (↑(sh n) : Int), .int .i64 (↑y : Int)] ∧ StIs { boxes := [], live := [] } { boxes := [], live := [] } ∧ y ≤ sh n ∧ True) ∧ ∀ (x : Nat), x ≤ sh n → (decide ((↑x : Int) < (↑(sh n) : Int)) = true → (2 : Int) ≠ (0 : Int) ∧ ∃ (y : Nat), ValsAre [.int .u64 (IntKind.u64.wrap ((↑(n / (2 : Nat) ^ x) : Int).tdiv (2 : Int))), .int .i64 (↑(sh n) : Int), .int .i64 (IntKind.i64.wrap ((↑x : Int) + (1 : Int)))]
 [.int .u64 (↑(n / (2 : Nat) ^ y) : Int), .int .i64 (↑(sh n) : Int), .int .i64 (↑y : Int)] ∧ StIs { boxes := [], live := [] } { boxes := [], live := [] } ∧ y ≤ sh n ∧ sh n - y < sh n - x) ∧ (decide ((↑x : Int) < (↑(sh n) : Int)) = false → RetIs (AV.int IntKind.i64 (IntKind.i64.wrap (IntKind.i64.wrap ((32 : Int) * (↑(sh n) : Int)) + IntKind.i64.wrap (↑(n / (2 : Nat) ^ x) : Int)))) [] (r, []))))) := by kernel_rfl
theorem z71 (n : Int) (r : AV) : (pureW PA GA XG (tbl [(80, zPos)]) (itbl []) nAn [] 71 [.int .i64 n] (r, [])) =
((decide (n < (0 : Int)) = true → ∃ (n_1 : Int), CallIs (tbl [((80 : Nat), zPos)] 80 [.int .u64 (IntKind.u64.wrap (IntKind.u64.wrap (IntKind.i64.wrap ((0 : Int) - IntKind.i64.wrap (n + (1 : Int)))) + (1 : Int)))]) (AV.int IntKind.i64 n_1) [] ∧ RetIs (AV.int IntKind.i64 (IntKind.i64.wrap ((0 : Int) - n_1))) [] (r, [])) ∧ (decide (n < (0 : Int)) = false → ∃ (n_1 : Int), CallIs (tbl [((80 : Nat), zPos)] 80 [.int .u64 (IntKind.u64.wrap n)]) (AV.int IntKind.i64 n_1) [] ∧ RetIs (AV.int IntKind.i64 n_1) [] (r, []))) := by kernel_rfl
theorem z53 (a b : Bks) (r : AV) : (laxW PA GA XG (tbl []) (itbl []) (zA53 a b) [] 53 [.sl 2 (bksL a) .no, .sl 2 (bksL b) .no] (r, [])) =
((∃ (y : KB), ValsAre [.sl 2 (bksL a) .no, .sl 2 (bksL b) .no, .sl 2 [] (.tok 0), .int .i64 0, .int .i64 0] [.sl 2 (bksL a) .no, .sl 2 (bksL b) .no, .sl 2 (bksL y.out) (.tok 0), .int .i64 (↑y.i : Int), .int .i64 (↑y.k : Int)] ∧ StIs { boxes := [], live := [((0 : Nat), (90 : Nat))] } { boxes := [], live := [((bksL y.out).length, (90 : Nat))] } ∧ MgOk a b y.i y.k y.out ∧ True) ∧ ∀ (x : KB), MgOk a b x.i x.k x.out → ((decide ((↑x.i : Int) < (↑(bksL a).length : Int)) = true → ∃ (y : KB), ValsAre [.sl 2 (bksL a) .no, .sl 2 (bksL b) .no, .sl 2 (bksL x.out) (.tok 0), .int .i64 (↑x.i : Int), .int .i64 (↑x.k : Int)] [.sl 2 (bksL a) .no, .sl 2 (bksL b) .no, .sl 2 (bksL y.out) (.tok 0), .int .i64 (↑y.i : Int), .int .i64 (↑y.k : Int)] ∧ StIs { boxes := [], live := [((bksL x.out).length, (90 : Nat))] } { boxes := [], live := [((bksL y.out).length, (90 : Nat))] } ∧ (MgOk a b y.i y.k y.out ∧ (y.i < List.length a ∨ y.k < List.length b)) ∧ some (AV.int IntKind.i64 (↑x.i : Int)) = some (AV.int IntKind.i64 (↑y.i : Int)) ∧ some (AV.int IntKind.i64 (↑x.k : Int)) = some (AV.int IntKind.i64 (↑y.k : Int))) ∧ (decide ((↑x.i : Int) < (↑(bksL a).length : Int)) = false → (decide ((↑x.k : Int) < (↑(bksL b).length : Int)) = true → ∃ (y : KB), ValsAre [.sl 2 (bksL a) .no, .sl 2 (bksL b) .no, .sl 2 (bksL x.out) (.tok 0), .int .i64 (↑x.i : Int), .int .i64 (↑x.k : Int)] [.sl 2 (bksL a) .no, .sl 2 (bksL b) .no, .sl 2 (bksL y.out) (.tok 0), .int .i64 (↑y.i : Int), .int .i64 (↑y.k : Int)] ∧ StIs { boxes := [], live := [((bksL x.out).length, (90 : Nat))] } { boxes := [], live := [((bksL y.out).length, (90 : Nat))] } ∧
 (MgOk a b y.i y.k y.out ∧ (y.i < List.length a ∨ y.k < List.length b)) ∧ some (AV.int IntKind.i64 (↑x.i : Int)) = some (AV.int IntKind.i64 (↑y.i : Int)) ∧ some (AV.int IntKind.i64 (↑x.k : Int)) = some (AV.int IntKind.i64 (↑y.k : Int))) ∧ (decide ((↑x.k : Int) < (↑(bksL b).length : Int)) = false → RetLax (AV.sl 2 (bksL x.out) (.tok 0)) (r, [])))) ∧ ∀ (x_1 : KB), MgOk a b x_1.i x_1.k x_1.out ∧ (x_1.i < List.length a ∨ x_1.k < List.length b) → some (AV.int IntKind.i64 (↑x.i : Int)) = some (AV.int IntKind.i64 (↑x_1.i : Int)) ∧ some (AV.int IntKind.i64 (↑x.k : Int)) = some (AV.int IntKind.i64 (↑x_1.k : Int)) → (((↑x_1.k : Int) == (↑(bksL b).length : Int)) = true → (0 ≤ (↑x_1.i : Int) ∧ (↑x_1.i : Int) < (↑(bksL a).length : Int)) ∧ ∃ (n : Int) (n_1 : Int), takeAt PA 90 (bksL a) (↑x_1.i : Int).toNat 0 = some (AV.agg [.int .i64 n, .int .i64 n_1]) ∧ ((2 : Nat) = (2 : Nat) ∨ bksL x_1.out = []) ∧ ((bksL x_1.out).length + (1 : Nat)) * (17 : Nat) ≤ (70368744177664 : Nat) ∧ (bksL x_1.out).length = (bksL x_1.out).length ∧ ∃ (y : KB), ValsAre [.sl 2 (bksL a) .no, .sl 2 (bksL b) .no, .sl 2 (bksL x_1.out ++ [.agg [.int .i64 n, .int .i64 n_1]]) (.tok 0), .int .i64 (IntKind.i64.wrap ((↑x_1.i : Int) + (1 : Int))), .int .i64 (↑x_1.k : Int)] [.sl 2 (bksL a) .no, .sl 2 (bksL b) .no, .sl 2 (bksL y.out) (.tok 0), .int .i64 (↑y.i : Int), .int .i64 (↑y.k : Int)] ∧ StIs { boxes := [], live := [((bksL x_1.out).length + (1 : Nat), (90 : Nat))] } { boxes := [], live := [((bksL y.out).length, (90 : Nat))] } ∧
 MgOk a b y.i y.k y.out ∧ List.length a + List.length b - y.i - y.k < List.length a + List.length b - x.i - x.k) ∧ (((↑x_1.k : Int) == (↑(bksL b).length : Int)) = false → (decide ((↑x_1.i : Int) < (↑(bksL a).length : Int)) = true → (0 ≤ (↑x_1.i : Int) ∧ (↑x_1.i : Int) < (↑(bksL a).length : Int)) ∧ ∃ (n : Int), takeAt PA 3 (bksL a) (↑x_1.i : Int).toNat 0 = some (AV.int IntKind.i64 n) ∧ (0 ≤ (↑x_1.k : Int) ∧ (↑x_1.k : Int) < (↑(bksL b).length : Int)) ∧ ∃ (n_1 : Int), takeAt PA 3 (bksL b) (↑x_1.k : Int).toNat 0 = some (AV.int IntKind.i64 n_1) ∧ (decide (n < n_1) = true → (0 ≤ (↑x_1.i : Int) ∧ (↑x_1.i : Int) < (↑(bksL a).length : Int)) ∧ ∃ (n : Int) (n_2 : Int), takeAt PA 90 (bksL a) (↑x_1.i : Int).toNat 0 = some (AV.agg [.int .i64 n, .int .i64 n_2]) ∧ ((2 : Nat) = (2 : Nat) ∨ bksL x_1.out = []) ∧ ((bksL x_1.out).length + (1 : Nat)) * (17 : Nat) ≤ (70368744177664 : Nat) ∧ (bksL x_1.out).length = (bksL x_1.out).length ∧ ∃ (y : KB), ValsAre [.sl 2 (bksL a) .no, .sl 2 (bksL b) .no, .sl 2 (bksL x_1.out ++ [.agg [.int .i64 n, .int .i64 n_2]]) (.tok 0), .int .i64 (IntKind.i64.wrap ((↑x_1.i : Int) + (1 : Int))), .int .i64 (↑x_1.k : Int)] [.sl 2 (bksL a) .no, .sl 2 (bksL b) .no, .sl 2 (bksL y.out) (.tok 0), .int .i64 (↑y.i : Int), .int .i64 (↑y.k : Int)] ∧ StIs { boxes := [], live := [((bksL x_1.out).length + (1 : Nat), (90 : Nat))] } { boxes := [], live := [((bksL y.out).length, (90 : Nat))] } ∧ MgOk a b y.i y.k y.out ∧ List.length a + List.length b - y.i - y.k < List.length a + List.length b - x.i - x.k) ∧
 (decide (n < n_1) = false → (((↑x_1.i : Int) == (↑(bksL a).length : Int)) = true → (0 ≤ (↑x_1.k : Int) ∧ (↑x_1.k : Int) < (↑(bksL b).length : Int)) ∧ ∃ (n : Int) (n_2 : Int), takeAt PA 90 (bksL b) (↑x_1.k : Int).toNat 0 = some (AV.agg [.int .i64 n, .int .i64 n_2]) ∧ ((2 : Nat) = (2 : Nat) ∨ bksL x_1.out = []) ∧ ((bksL x_1.out).length + (1 : Nat)) * (17 : Nat) ≤ (70368744177664 : Nat) ∧ (bksL x_1.out).length = (bksL x_1.out).length ∧ ∃ (y : KB), ValsAre [.sl 2 (bksL a) .no, .sl 2 (bksL b) .no, .sl 2 (bksL x_1.out ++ [.agg [.int .i64 n, .int .i64 n_2]]) (.tok 0), .int .i64 (↑x_1.i : Int), .int .i64 (IntKind.i64.wrap ((↑x_1.k : Int) + (1 : Int)))] [.sl 2 (bksL a) .no, .sl 2 (bksL b) .no, .sl 2 (bksL y.out) (.tok 0), .int .i64 (↑y.i : Int), .int .i64 (↑y.k : Int)] ∧ StIs { boxes := [], live := [((bksL x_1.out).length + (1 : Nat), (90 : Nat))] } { boxes := [], live := [((bksL y.out).length, (90 : Nat))] } ∧ MgOk a b y.i y.k y.out ∧ List.length a + List.length b - y.i - y.k < List.length a + List.length b - x.i - x.k) ∧ (((↑x_1.i : Int) == (↑(bksL a).length : Int)) = false → (0 ≤ (↑x_1.k : Int) ∧ (↑x_1.k : Int) < (↑(bksL b).length : Int)) ∧ ∃ (n : Int), takeAt PA 3 (bksL b) (↑x_1.k : Int).toNat 0 = some (AV.int IntKind.i64 n) ∧ (0 ≤ (↑x_1.i : Int) ∧ (↑x_1.i : Int) < (↑(bksL a).length : Int)) ∧ ∃ (n_2 : Int), takeAt PA 3 (bksL a) (↑x_1.i : Int).toNat 0 = some (AV.int IntKind.i64 n_2) ∧ (decide (n < n_2) = true → (0 ≤ (↑x_1.k : Int) ∧ (↑x_1.k : Int) < (↑(bksL b).length : Int)) ∧ ∃ (n : Int) (n_3 : Int),
 takeAt PA 90 (bksL b) (↑x_1.k : Int).toNat 0 = some (AV.agg [.int .i64 n, .int .i64 n_3]) ∧ ((2 : Nat) = (2 : Nat) ∨ bksL x_1.out = []) ∧ ((bksL x_1.out).length + (1 : Nat)) * (17 : Nat) ≤ (70368744177664 : Nat) ∧ (bksL x_1.out).length = (bksL x_1.out).length ∧ ∃ (y : KB), ValsAre [.sl 2 (bksL a) .no, .sl 2 (bksL b) .no, .sl 2 (bksL x_1.out ++ [.agg [.int .i64 n, .int .i64 n_3]]) (.tok 0), .int .i64 (↑x_1.i : Int), .int .i64 (IntKind.i64.wrap ((↑x_1.k : Int) + (1 : Int)))] [.sl 2 (bksL a) .no, .sl 2 (bksL b) .no, .sl 2 (bksL y.out) (.tok 0), .int .i64 (↑y.i : Int), .int .i64 (↑y.k : Int)] ∧ StIs { boxes := [], live := [((bksL x_1.out).length + (1 : Nat), (90 : Nat))] } { boxes := [], live := [((bksL y.out).length, (90 : Nat))] } ∧ MgOk a b y.i y.k y.out ∧ List.length a + List.length b - y.i - y.k < List.length a + List.length b - x.i - x.k) ∧ (decide (n < n_2) = false → (0 ≤ (↑x_1.i : Int) ∧ (↑x_1.i : Int) < (↑(bksL a).length : Int)) ∧ ∃ (n : Int), takeAt PA 3 (bksL a) (↑x_1.i : Int).toNat 1 = some (AV.int IntKind.i64 n) ∧ (0 ≤ (↑x_1.k : Int) ∧ (↑x_1.k : Int) < (↑(bksL b).length : Int)) ∧ ∃ (n_3 : Int), takeAt PA 3 (bksL b) (↑x_1.k : Int).toNat 1 = some (AV.int IntKind.i64 n_3) ∧ ((IntKind.i64.wrap (n + n_3) != (0 : Int)) = true → (0 ≤ (↑x_1.i : Int) ∧ (↑x_1.i : Int) < (↑(bksL a).length : Int)) ∧ ∃ (n_4 : Int), takeAt PA 3 (bksL a) (↑x_1.i : Int).toNat 0 = some (AV.int IntKind.i64 n_4) ∧ ((2 : Nat) = (2 : Nat) ∨ bksL x_1.out = []) ∧ ((bksL x_1.out).length + (1 : Nat)) * (17 : Nat) ≤ (70368744177664 : Nat) ∧
 (bksL x_1.out).length = (bksL x_1.out).length ∧ ∃ (y : KB), ValsAre [.sl 2 (bksL a) .no, .sl 2 (bksL b) .no, .sl 2 (bksL x_1.out ++ [.agg [.int .i64 n_4, .int .i64 (IntKind.i64.wrap (n + n_3))]]) (.tok 0), .int .i64 (IntKind.i64.wrap ((↑x_1.i : Int) + (1 : Int))), .int .i64 (IntKind.i64.wrap ((↑x_1.k : Int) + (1 : Int)))] [.sl 2 (bksL a) .no, .sl 2 (bksL b) .no, .sl 2 (bksL y.out) (.tok 0), .int .i64 (↑y.i : Int), .int .i64 (↑y.k : Int)] ∧ StIs { boxes := [], live := [((bksL x_1.out).length + (1 : Nat), (90 : Nat))] } { boxes := [], live := [((bksL y.out).length, (90 : Nat))] } ∧ MgOk a b y.i y.k y.out ∧ List.length a + List.length b - y.i - y.k < List.length a + List.length b - x.i - x.k) ∧ ((IntKind.i64.wrap (n + n_3) != (0 : Int)) = false → ∃ (y : KB), ValsAre [.sl 2 (bksL a) .no, .sl 2 (bksL b) .no, .sl 2 (bksL x_1.out) (.tok 0), .int .i64 (IntKind.i64.wrap ((↑x_1.i : Int) + (1 : Int))), .int .i64 (IntKind.i64.wrap ((↑x_1.k : Int) + (1 : Int)))] [.sl 2 (bksL a) .no, .sl 2 (bksL b) .no, .sl 2 (bksL y.out) (.tok 0), .int .i64 (↑y.i : Int), .int .i64 (↑y.k : Int)] ∧ StIs { boxes := [], live := [((bksL x_1.out).length, (90 : Nat))] } { boxes := [], live := [((bksL y.out).length, (90 : Nat))] } ∧ MgOk a b y.i y.k y.out ∧ List.length a + List.length b - y.i - y.k < List.length a + List.length b - x.i - x.k))))) ∧ (decide ((↑x_1.i : Int) < (↑(bksL a).length : Int)) = false → (((↑x_1.i : Int) == (↑(bksL a).length : Int)) = true → (0 ≤ (↑x_1.k : Int) ∧ (↑x_1.k : Int) < (↑(bksL b).length : Int)) ∧
 ∃ (n : Int) (n_1 : Int), takeAt PA 90 (bksL b) (↑x_1.k : Int).toNat 0 = some (AV.agg [.int .i64 n, .int .i64 n_1]) ∧ ((2 : Nat) = (2 : Nat) ∨ bksL x_1.out = []) ∧ ((bksL x_1.out).length + (1 : Nat)) * (17 : Nat) ≤ (70368744177664 : Nat) ∧ (bksL x_1.out).length = (bksL x_1.out).length ∧ ∃ (y : KB), ValsAre [.sl 2 (bksL a) .no, .sl 2 (bksL b) .no, .sl 2 (bksL x_1.out ++ [.agg [.int .i64 n, .int .i64 n_1]]) (.tok 0), .int .i64 (↑x_1.i : Int), .int .i64 (IntKind.i64.wrap ((↑x_1.k : Int) + (1 : Int)))] [.sl 2 (bksL a) .no, .sl 2 (bksL b) .no, .sl 2 (bksL y.out) (.tok 0), .int .i64 (↑y.i : Int), .int .i64 (↑y.k : Int)] ∧ StIs { boxes := [], live := [((bksL x_1.out).length + (1 : Nat), (90 : Nat))] } { boxes := [], live := [((bksL y.out).length, (90 : Nat))] } ∧ MgOk a b y.i y.k y.out ∧ List.length a + List.length b - y.i - y.k < List.length a + List.length b - x.i - x.k) ∧ (((↑x_1.i : Int) == (↑(bksL a).length : Int)) = false → (0 ≤ (↑x_1.k : Int) ∧ (↑x_1.k : Int) < (↑(bksL b).length : Int)) ∧ ∃ (n : Int), takeAt PA 3 (bksL b) (↑x_1.k : Int).toNat 0 = some (AV.int IntKind.i64 n) ∧ (0 ≤ (↑x_1.i : Int) ∧ (↑x_1.i : Int) < (↑(bksL a).length : Int)) ∧ ∃ (n_1 : Int), takeAt PA 3 (bksL a) (↑x_1.i : Int).toNat 0 = some (AV.int IntKind.i64 n_1) ∧ (decide (n < n_1) = true → (0 ≤ (↑x_1.k : Int) ∧ (↑x_1.k : Int) < (↑(bksL b).length : Int)) ∧ ∃ (n : Int) (n_2 : Int), takeAt PA 90 (bksL b) (↑x_1.k : Int).toNat 0 = some (AV.agg [.int .i64 n, .int .i64 n_2]) ∧ ((2 : Nat) = (2 : Nat) ∨ bksL x_1.out = []) ∧
 ((bksL x_1.out).length + (1 : Nat)) * (17 : Nat) ≤ (70368744177664 : Nat) ∧ (bksL x_1.out).length = (bksL x_1.out).length ∧ ∃ (y : KB), ValsAre [.sl 2 (bksL a) .no, .sl 2 (bksL b) .no, .sl 2 (bksL x_1.out ++ [.agg [.int .i64 n, .int .i64 n_2]]) (.tok 0), .int .i64 (↑x_1.i : Int), .int .i64 (IntKind.i64.wrap ((↑x_1.k : Int) + (1 : Int)))] [.sl 2 (bksL a) .no, .sl 2 (bksL b) .no, .sl 2 (bksL y.out) (.tok 0), .int .i64 (↑y.i : Int), .int .i64 (↑y.k : Int)] ∧ StIs { boxes := [], live := [((bksL x_1.out).length + (1 : Nat), (90 : Nat))] } { boxes := [], live := [((bksL y.out).length, (90 : Nat))] } ∧ MgOk a b y.i y.k y.out ∧ List.length a + List.length b - y.i - y.k < List.length a + List.length b - x.i - x.k) ∧ (decide (n < n_1) = false → (0 ≤ (↑x_1.i : Int) ∧ (↑x_1.i : Int) < (↑(bksL a).length : Int)) ∧ ∃ (n : Int), takeAt PA 3 (bksL a) (↑x_1.i : Int).toNat 1 = some (AV.int IntKind.i64 n) ∧ (0 ≤ (↑x_1.k : Int) ∧ (↑x_1.k : Int) < (↑(bksL b).length : Int)) ∧ ∃ (n_2 : Int), takeAt PA 3 (bksL b) (↑x_1.k : Int).toNat 1 = some (AV.int IntKind.i64 n_2) ∧ ((IntKind.i64.wrap (n + n_2) != (0 : Int)) = true → (0 ≤ (↑x_1.i : Int) ∧ (↑x_1.i : Int) < (↑(bksL a).length : Int)) ∧ ∃ (n_3 : Int), takeAt PA 3 (bksL a) (↑x_1.i : Int).toNat 0 = some (AV.int IntKind.i64 n_3) ∧ ((2 : Nat) = (2 : Nat) ∨ bksL x_1.out = []) ∧ ((bksL x_1.out).length + (1 : Nat)) * (17 : Nat) ≤ (70368744177664 : Nat) ∧ (bksL x_1.out).length = (bksL x_1.out).length ∧ ∃ (y : KB), ValsAre [.sl 2 (bksL a) .no, .sl 2 (bksL b) .no,
 .sl 2 (bksL x_1.out ++ [.agg [.int .i64 n_3, .int .i64 (IntKind.i64.wrap (n + n_2))]]) (.tok 0), .int .i64 (IntKind.i64.wrap ((↑x_1.i : Int) + (1 : Int))), .int .i64 (IntKind.i64.wrap ((↑x_1.k : Int) + (1 : Int)))] [.sl 2 (bksL a) .no, .sl 2 (bksL b) .no, .sl 2 (bksL y.out) (.tok 0), .int .i64 (↑y.i : Int), .int .i64 (↑y.k : Int)] ∧ StIs { boxes := [], live := [((bksL x_1.out).length + (1 : Nat), (90 : Nat))] } { boxes := [], live := [((bksL y.out).length, (90 : Nat))] } ∧ MgOk a b y.i y.k y.out ∧ List.length a + List.length b - y.i - y.k < List.length a + List.length b - x.i - x.k) ∧ ((IntKind.i64.wrap (n + n_2) != (0 : Int)) = false → ∃ (y : KB), ValsAre [.sl 2 (bksL a) .no, .sl 2 (bksL b) .no, .sl 2 (bksL x_1.out) (.tok 0), .int .i64 (IntKind.i64.wrap ((↑x_1.i : Int) + (1 : Int))), .int .i64 (IntKind.i64.wrap ((↑x_1.k : Int) + (1 : Int)))] [.sl 2 (bksL a) .no, .sl 2 (bksL b) .no, .sl 2 (bksL y.out) (.tok 0), .int .i64 (↑y.i : Int), .int .i64 (↑y.k : Int)] ∧ StIs { boxes := [], live := [((bksL x_1.out).length, (90 : Nat))] } { boxes := [], live := [((bksL y.out).length, (90 : Nat))] } ∧ MgOk a b y.i y.k y.out ∧ List.length a + List.length b - y.i - y.k < List.length a + List.length b - x.i - x.k)))))) := by kernel_rfl
theorem z49 (l : Bks) (n t : Int) (r : AV) : (laxW PA GA XG (tbl [(71, zIdx), (53, zMrg)]) (itbl []) nAn [] 49 [.sl 2 (bksL l) .no, .int .i64 n, .int .i64 t] (r, [])) =
(((t == (0 : Int)) = true → RetLax (AV.sl 2 (bksL l) .no) (r, [])) ∧ ((t == (0 : Int)) = false → ∃ (n_1 : Int), CallIs (tbl [((71 : Nat), zIdx), ((53 : Nat), zMrg)] 71 [.int .i64 n]) (AV.int IntKind.i64 n_1) [] ∧ ∃ (es : List AV), CallIs (tbl [((71 : Nat), zIdx), ((53 : Nat), zMrg)] 53 [.sl 2 (bksL l) .no, .sl 2 [.agg [.int .i64 n_1, .int .i64 t]] .full]) (AV.sl 2 es .no) [] ∧ RetLax (AV.sl 2 es .no) (r, []))) := by kernel_rfl
theorem half_pos {n i : Nat} (h : n < 2 ^ 64) (hi : i < Lib.bitLen n) : 0 < n / 2 ^ i := by
 have h0 : 0 < n := Nat.pos_of_ne_zero fun e => by subst e; rw [bitLen_zero] at hi; omega
 have h1 := le_bitLen n h0 h
 have h2 : 2 ^ i ≤ 2 ^ (Lib.bitLen n - 1) := Nat.pow_le_pow_right (by omega) (by omega)
 exact Nat.div_pos (by omega) (Nat.two_pow_pos i)
theorem half_zero {n : Nat} (h : n < 2 ^ 64) : n / 2 ^ Lib.bitLen n = 0 := Nat.div_eq_of_lt (bitLen_lt n h)
theorem half_next (n i : Nat) : n / 2 ^ i / 2 = n / 2 ^ (i + 1) := by rw [Nat.div_div_eq_div_mul, Nat.pow_succ]
theorem quo2 {m : Nat} (h : m < 18446744073709551616) : IntKind.u64.wrap ((m : Int).tdiv 2) = ((m / 2 : Nat) : Int) := by
 rw [Int.tdiv_eq_ediv_of_nonneg (by omega), wrapU]; omega
theorem q80z (n : Nat) (h : n < 2 ^ 64) : PureOk PA GA XG (tbl []) (itbl []) (zA80 n) [] 80 [.int .u64 n] (.int .i64 (bk n : Nat), []) := by
 constructor
 rw [z80]
 have hb := Lib.bitLen_le n 64 (by omega) h
 have le : ∀ i, n / 2 ^ i < 18446744073709551616 := fun i => Nat.lt_of_le_of_lt (Nat.div_le_self n _) h
 have next : ∀ i, IntKind.u64.wrap (((n / 2 ^ i : Nat) : Int).tdiv 2) = ((n / 2 ^ (i + 1) : Nat) : Int) := fun i => by rw [quo2 (le i), half_next]
 refine ⟨⟨0, ⟨by rw [Nat.pow_zero, Nat.div_one]; rfl⟩, ⟨rfl⟩, Nat.zero_le _, trivial⟩, fun i hi => ⟨fun gt => ?_, fun ge => ?_⟩⟩
 ·have gt := of_decide_eq_true gt
  have hlt : i < Lib.bitLen n := by
   rcases Nat.lt_or_ge i (Lib.bitLen n) with h1 | h1
   ·exact h1
   ·obtain rfl : i = Lib.bitLen n := by omega
    rw [half_zero h] at gt; exact absurd gt (by omega)
  exact ⟨by decide, i + 1, ⟨by rw [next, iwN ⟨by omega, by omega⟩]; rfl⟩, ⟨rfl⟩, hlt, by omega⟩
 ·have ge := of_decide_eq_false ge
  obtain rfl : i = Lib.bitLen n := by
   rcases Nat.lt_or_ge i (Lib.bitLen n) with h1 | h1
   ·have := half_pos h h1; exact absurd (show ((n / 2 ^ i : Nat) : Int) > 0 by omega) ge
   ·omega
  refine ⟨fun d => retIs_iff.2 ?_, fun d => ⟨⟨0, ⟨?_⟩, ⟨rfl⟩, Nat.zero_le _, trivial⟩, fun j hj => ⟨fun lt => ?_, fun ge2 => retIs_iff.2 ?_⟩⟩⟩
  ·have d := of_decide_eq_true d
   have e : sh n = 0 := by unfold sh; omega
   have hlt := bitLen_lt n h
   have h6 : 2 ^ Lib.bitLen n ≤ 2 ^ 6 := Nat.pow_le_pow_right (by omega) (by omega)
   have eb : bk n = n := by unfold bk; rw [e]; simp
   rw [eb, iwN ⟨by omega, by omega⟩]
  ·have d := of_decide_eq_false d
   rw [Nat.pow_zero, Nat.div_one, iwN ⟨by omega, by omega⟩]
   have : (Lib.bitLen n : Int) - 6 = (sh n : Nat) := by unfold sh; omega
   rw [this]; rfl
  ·have lt := of_decide_eq_true lt
   have hs := sh_le n h
   exact ⟨by decide, j + 1, ⟨by rw [next, iwN ⟨by omega, by omega⟩]; rfl⟩, ⟨rfl⟩, by omega, by omega⟩
  ·have ge2 := of_decide_eq_false ge2
   obtain rfl : j = sh n := by omega
   have hs := sh_le n h
   have hd := sh_div n h
   have hB : bk n = 32 * sh n + n / 2 ^ sh n := rfl
   rw [hB]
   generalize n / 2 ^ sh n = q at *
   generalize sh n = s at *
   rw [iwN (x := (q : Int)) ⟨by omega, by omega⟩, iwN (x := 32 * (s : Int)) ⟨by omega, by omega⟩, iwN ⟨by omega, by omega⟩]
   have : (32 : Int) * (s : Int) + (q : Int) = ((32 * s + q : Nat) : Int) := by omega
   rw [this]
theorem q71z (n : Int) (h : iOk n) : PureOk PA GA XG (tbl [(80, zPos)]) (itbl []) nAn [] 71 [.int .i64 n] (.int .i64 (idx n), []) := by
 constructor
 rw [z71]
 unfold iOk at h
 have c : ∀ m : Int, uOk m → tbl [(80, zPos)] 80 [.int .u64 m] = some (.int .i64 (bk m.toNat : Nat), []) := fun m hm => by
  rw [tb_hit]; simp only [zPos]; rw [if_pos hm]
 refine ⟨fun d => ?_, fun d => ?_⟩
 ·have d := of_decide_eq_true d
  have w : IntKind.u64.wrap (IntKind.u64.wrap (IntKind.i64.wrap (0 - IntKind.i64.wrap (n + 1))) + 1) = -n := by
   rw [iwN (x := n + 1) ⟨by omega, by omega⟩, iwN ⟨by omega, by omega⟩, wrapU, wrapU]; omega
  rw [w]
  refine ⟨_, callIs_iff.2 (c _ ⟨by omega, by omega⟩), retIs_iff.2 ?_⟩
  have hb := bk_le (-n).toNat (by omega)
  unfold idx
  rw [if_pos d, iwN ⟨by omega, by omega⟩]
  congr 2; omega
 ·have d := of_decide_eq_false d
  have w : IntKind.u64.wrap n = n := by rw [wrapU]; omega
  rw [w]
  refine ⟨_, callIs_iff.2 (c _ ⟨by omega, by omega⟩), retIs_iff.2 ?_⟩
  unfold idx
  rw [if_neg d]
theorem MgOk.symm {a b : Bks} {i k : Nat} {out : Bks} (h : MgOk a b i k out) : MgOk b a k i out :=
 ⟨h.asc, h.wf, fun j => by rw [h.tot j, Int.add_comm], h.kb, h.ia, by have := h.len; omega, h.lb, h.la⟩
theorem asc_snoc {out : Bks} {x : Int × Int} (h : Asc out) (h1 : ∀ z ∈ out, z.1 < x.1) (h0 : x.2 ≠ 0) : Asc (out ++ [x]) :=
 ⟨List.pairwise_append.2 ⟨h.1, by simp, fun z hz y hy => by obtain rfl := List.mem_singleton.1 hy; exact h1 z hz⟩, fun z hz => by
  rcases List.mem_append.1 hz with hz | hz
  ·exact h.2 z hz
  ·obtain rfl := List.mem_singleton.1 hz; exact h0⟩
theorem wf_snoc {out : Bks} {x : Int × Int} (h : WfB out) (hx : I64 x.1 ∧ I64 x.2) : WfB (out ++ [x]) := fun z hz => by
 rcases List.mem_append.1 hz with hz | hz
 ·exact h z hz
 ·obtain rfl := List.mem_singleton.1 hz; exact hx
theorem drop_sub {α : Type} {l : List α} {i : Nat} {x : α} (h : x ∈ l.drop (i + 1)) : x ∈ l.drop i := by
 rw [← List.drop_drop] at h
 exact List.mem_of_mem_drop h
theorem take_tot {a : Bks} {i : Nat} (h : i < a.length) (j : Int) : tot (a.take (i + 1)) j = if a[i].1 = j then wrap64 (tot (a.take i) j + a[i].2) else tot (a.take i) j := by
 rw [List.take_succ_eq_append_getElem h]
 exact tot_snoc _ a[i].1 a[i].2 j
theorem asc_at {a : Bks} (ha : Asc a) {i : Nat} (h : i < a.length) : ∀ y ∈ a.drop (i + 1), a[i].1 < y.1 := by
 have := (List.pairwise_append.1 (show (a.take i ++ a.drop i).Pairwise (fun x y => x.1 < y.1) by rw [List.take_append_drop]; exact ha.1)).2.1
 rw [← List.getElem_cons_drop h] at this
 exact (List.pairwise_cons.1 this).1
theorem at_drop {α : Type} {l : List α} {i : Nat} (h : i < l.length) : l[i] ∈ l.drop i := by
 have e := List.getElem_cons_drop h
 exact e ▸ List.mem_cons_self
theorem drop_ge {a : Bks} (ha : Asc a) {i : Nat} (h : i < a.length) {t : Int} (ht : t < a[i].1) : ∀ y ∈ a.drop i, t < y.1 := fun y hy => by
 rw [← List.getElem_cons_drop h] at hy
 rcases List.mem_cons.1 hy with rfl | hy
 ·exact ht
 ·have := asc_at ha h y hy; omega
theorem w3 (x y z : Int) : wrap64 (wrap64 (x + y) + z) = wrap64 (wrap64 (x + z) + y) := w64_congr (by have := w64_mod (x + y); have := w64_mod (x + z); omega)
theorem w4 (x y z t : Int) : wrap64 (wrap64 (x + y) + wrap64 (z + t)) = wrap64 (wrap64 (x + z) + wrap64 (y + t)) := w64_congr (by have := w64_mod (x + y); have := w64_mod (x + z); have := w64_mod (z + t); have := w64_mod (y + t); omega)
theorem MgOk.one {a b : Bks} {i k : Nat} {out : Bks} (ha : Asc a) (fa : WfB a) (h : MgOk a b i k out) (hi : i < a.length) (hb : ∀ y ∈ b.drop k, a[i].1 < y.1) : MgOk a b (i + 1) k (out ++ [a[i]]) := by
 have hx := fa _ (List.getElem_mem hi)
 refine ⟨asc_snoc h.asc (fun z hz => h.la z hz _ (at_drop hi)) (ha.2 _ (List.getElem_mem hi)), wf_snoc h.wf hx, fun j => ?_, hi, h.kb, by have := h.len; simp only [List.length_append, List.length_cons, List.length_nil]; omega, fun z hz y hy => ?_, fun z hz y hy => ?_⟩
 ·rw [show out ++ [a[i]] = out ++ [(a[i].1, a[i].2)] from rfl, tot_snoc, take_tot hi, h.tot j]
  split
  ·exact w3 _ _ _
  ·rfl
 ·rcases List.mem_append.1 hz with hz | hz
  ·exact h.la z hz y (drop_sub hy)
  ·obtain rfl := List.mem_singleton.1 hz; exact asc_at ha hi y hy
 ·rcases List.mem_append.1 hz with hz | hz
  ·exact h.lb z hz y hy
  ·obtain rfl := List.mem_singleton.1 hz; exact hb y hy
theorem two_tot {a b : Bks} {i k : Nat} {out : Bks} (h : MgOk a b i k out) (hi : i < a.length) (hk : k < b.length) (e : a[i].1 = b[k].1) (j : Int) :
  wrap64 (tot (a.take (i + 1)) j + tot (b.take (k + 1)) j) = if a[i].1 = j then wrap64 (tot out j + wrap64 (a[i].2 + b[k].2)) else tot out j := by
 rw [take_tot hi, take_tot hk, h.tot j, ← e]
 split
 ·exact w4 _ _ _ _
 ·rfl
theorem MgOk.two {a b : Bks} {i k : Nat} {out : Bks} (ha : Asc a) (hb : Asc b) (fa : WfB a) (h : MgOk a b i k out) (hi : i < a.length) (hk : k < b.length) (e : a[i].1 = b[k].1) (h0 : wrap64 (a[i].2 + b[k].2) ≠ 0) : MgOk a b (i + 1) (k + 1) (out ++ [(a[i].1, wrap64 (a[i].2 + b[k].2))]) := by
 have hx := fa _ (List.getElem_mem hi)
 have hr := w64_range (a[i].2 + b[k].2)
 refine ⟨asc_snoc h.asc (fun z hz => h.la z hz a[i] (at_drop hi)) h0, wf_snoc h.wf ⟨hx.1, by show _ ∧ _; omega⟩, fun j => ?_, hi, hk, by have := h.len; simp only [List.length_append, List.length_cons, List.length_nil]; omega, fun z hz y hy => ?_, fun z hz y hy => ?_⟩
 ·rw [two_tot h hi hk e j, tot_snoc]
 ·rcases List.mem_append.1 hz with hz | hz
  ·exact h.la z hz y (drop_sub hy)
  ·obtain rfl := List.mem_singleton.1 hz; exact asc_at ha hi y hy
 ·rcases List.mem_append.1 hz with hz | hz
  ·exact h.lb z hz y (drop_sub hy)
  ·obtain rfl := List.mem_singleton.1 hz
   show a[i].1 < y.1
   rw [e]; exact asc_at hb hk y hy
theorem MgOk.no {a b : Bks} {i k : Nat} {out : Bks} (h : MgOk a b i k out) (hi : i < a.length) (hk : k < b.length) (e : a[i].1 = b[k].1) (h0 : wrap64 (a[i].2 + b[k].2) = 0) : MgOk a b (i + 1) (k + 1) out := by
 refine ⟨h.asc, h.wf, fun j => ?_, hi, hk, by have := h.len; omega, fun z hz y hy => h.la z hz y (drop_sub hy), fun z hz y hy => h.lb z hz y (drop_sub hy)⟩
 rw [two_tot h hi hk e j, h0, Int.add_zero]
 split
 ·have := tot_range out j
  rw [Go.Proofs.K17.w64 this.1 (by have := this.2; omega)]
 ·rfl
theorem MgOk.fin {a b : Bks} {out : Bks} (hb : Asc b) (fa : WfB a) (fb : WfB b) (h : MgOk a b a.length b.length out) : out = normB (a ++ b) := by
 have hw : WfB (a ++ b) := fun x hx => by
  rcases List.mem_append.1 hx with hx | hx
  ·exact fa x hx
  ·exact fb x hx
 obtain ⟨n1, n2, n3⟩ := norm_ok hw
 refine asc_ext h.asc h.wf n1 n2 fun j => ?_
 have := h.tot j
 rw [List.take_length, List.take_length] at this
 rw [n3, tot_append hb fb, this]
theorem aggB3 : aggA PA 3 = some false := by kernel_rfl
theorem sizeB3 : sizeA PA 3 = some 1 := by kernel_rfl
theorem bk_at {l : Bks} {i : Nat} (h : i < l.length) : (bksL l)[i]? = some (.agg [.int .i64 l[i].1, .int .i64 l[i].2]) := by
 rw [List.getElem?_map, List.getElem?_eq_getElem h]; rfl
theorem take_b0 {l : Bks} {i : Nat} (h : i < l.length) : takeAt PA 3 (bksL l) i 0 = some (.int .i64 l[i].1) := by
 unfold takeAt
 rw [bk_at h]
 simp only [aggB3, sizeB3, takeA]
 rfl
theorem take_b1 {l : Bks} {i : Nat} (h : i < l.length) : takeAt PA 3 (bksL l) i 1 = some (.int .i64 l[i].2) := by
 unfold takeAt
 rw [bk_at h]
 simp only [aggB3, sizeB3, takeA]
 rfl
theorem bk_snoc (l : Bks) (x y : Int) : bksL l ++ [AV.agg [.int .i64 x, .int .i64 y]] = bksL (l ++ [(x, y)]) := by simp [bksL, bkA]
set_option maxHeartbeats 1000000 in
theorem q53z (a b : Bks) (ha : Asc a) (hb : Asc b) (fa : WfB a) (fb : WfB b) (hl : a.length + b.length ≤ 100000000) : LaxOk PA GA XG (tbl []) (itbl []) (zA53 a b) [] 53 [.sl 2 (bksL a) .no, .sl 2 (bksL b) .no] (.sl 2 (bksL (normB (a ++ b))) .no, []) := by
 constructor
 rw [z53]
 rw [len_bks, len_bks]
 refine ⟨⟨⟨0, 0, []⟩, ⟨rfl⟩, ⟨rfl⟩, ⟨⟨List.Pairwise.nil, fun x h => by cases h⟩, fun x h => (by cases h), fun j => (by rw [List.take_zero, List.take_zero, tot_nil]; unfold wrap64; omega), Nat.zero_le _, Nat.zero_le _, Nat.zero_le _, fun x h => (by cases h), fun x h => (by cases h)⟩, trivial⟩, fun p hp => ⟨⟨fun lt => ⟨p, ⟨rfl⟩, ⟨rfl⟩, ⟨hp, .inl ?_⟩, rfl, rfl⟩, fun ge => ⟨fun lt2 => ⟨p, ⟨rfl⟩, ⟨rfl⟩, ⟨hp, .inr ?_⟩, rfl, rfl⟩, fun ge2 => ?_⟩⟩, fun p1 h1 t1 => ?_⟩⟩
 ·have lt := of_decide_eq_true lt; omega
 ·have lt2 := of_decide_eq_true lt2; omega
 ·have ge := of_decide_eq_false ge
  have ge2 := of_decide_eq_false ge2
  obtain ⟨i, k, out⟩ := p
  dsimp only at hp ge ge2 ⊢
  have ia := hp.ia
  have kb := hp.kb
  obtain rfl : i = a.length := by omega
  obtain rfl : k = b.length := by omega
  rw [hp.fin hb fa fb]
  exact ⟨⟨rfl, rfl, .inl rfl⟩, rfl, rfl⟩
 ·obtain ⟨i0, k0, out0⟩ := p
  obtain ⟨i, k, out⟩ := p1
  dsimp only at h1 t1 ⊢
  obtain ⟨t1, t2⟩ := t1
  obtain rfl : i0 = i := by injection t1 with t1; injection t1 with _ t1; omega
  obtain rfl : k0 = k := by injection t2 with t2; injection t2 with _ t2; omega
  obtain ⟨h1, h2⟩ := h1
  have ia := h1.ia
  have kb := h1.kb
  have ol := h1.len
  have room : ((bksL out).length + 1) * 17 ≤ 70368744177664 := by rw [len_bks]; omega
  have wi : IntKind.i64.wrap ((i0 : Int) + 1) = ((i0 + 1 : Nat) : Int) := by rw [iwN ⟨by omega, by omega⟩]; omega
  have wk : IntKind.i64.wrap ((k0 : Int) + 1) = ((k0 + 1 : Nat) : Int) := by rw [iwN ⟨by omega, by omega⟩]; omega
  rw [wi, wk]
  have LA : ∀ (hi : i0 < a.length), (∀ y ∈ b.drop k0, a[i0].1 < y.1) → ∃ (y : KB), ValsAre [AV.sl 2 (bksL a) .no, AV.sl 2 (bksL b) .no, AV.sl 2 (bksL out ++ [AV.agg [AV.int .i64 a[i0].1, AV.int .i64 a[i0].2]]) (.tok 0), AV.int .i64 ((i0 + 1 : Nat) : Int), AV.int .i64 (k0 : Int)] [AV.sl 2 (bksL a) .no, AV.sl 2 (bksL b) .no, AV.sl 2 (bksL y.out) (.tok 0), AV.int .i64 (y.i : Int), AV.int .i64 (y.k : Int)] ∧ StIs ⟨[], [((bksL out).length + 1, 90)]⟩ ⟨[], [((bksL y.out).length, 90)]⟩ ∧ MgOk a b y.i y.k y.out ∧ a.length + b.length - y.i - y.k < a.length + b.length - i0 - k0 := fun hi hd =>
   ⟨⟨i0 + 1, k0, out ++ [a[i0]]⟩, ⟨by rw [bk_snoc]⟩, ⟨by rw [len_bks, len_bks, List.length_append]; rfl⟩, h1.one ha fa hi hd, by show a.length + b.length - (i0 + 1) - k0 < _; omega⟩
  have LB : ∀ (hk : k0 < b.length), (∀ y ∈ a.drop i0, b[k0].1 < y.1) → ∃ (y : KB), ValsAre [AV.sl 2 (bksL a) .no, AV.sl 2 (bksL b) .no, AV.sl 2 (bksL out ++ [AV.agg [AV.int .i64 b[k0].1, AV.int .i64 b[k0].2]]) (.tok 0), AV.int .i64 (i0 : Int), AV.int .i64 ((k0 + 1 : Nat) : Int)] [AV.sl 2 (bksL a) .no, AV.sl 2 (bksL b) .no, AV.sl 2 (bksL y.out) (.tok 0), AV.int .i64 (y.i : Int), AV.int .i64 (y.k : Int)] ∧ StIs ⟨[], [((bksL out).length + 1, 90)]⟩ ⟨[], [((bksL y.out).length, 90)]⟩ ∧ MgOk a b y.i y.k y.out ∧ a.length + b.length - y.i - y.k < a.length + b.length - i0 - k0 := fun hk hd =>
   ⟨⟨i0, k0 + 1, out ++ [b[k0]]⟩, ⟨by rw [bk_snoc]⟩, ⟨by rw [len_bks, len_bks, List.length_append]; rfl⟩, (h1.symm.one hb fb hk hd).symm, by show a.length + b.length - i0 - (k0 + 1) < _; omega⟩
  have nA : ¬ i0 < a.length → a.drop i0 = [] := fun h => List.drop_of_length_le (by omega)
  have nB : ¬ k0 < b.length → b.drop k0 = [] := fun h => List.drop_of_length_le (by omega)
  have bi : ∀ {n : Nat}, i0 < n → (0 : Int) ≤ (i0 : Int) ∧ (i0 : Int) < (n : Int) := fun h => by omega
  have bk' : ∀ {n : Nat}, k0 < n → (0 : Int) ≤ (k0 : Int) ∧ (k0 : Int) < (n : Int) := fun h => by omega
  have two : ∀ (hi : i0 < a.length) (hk : k0 < b.length) (h3 : ¬ a[i0].1 < b[k0].1) (h4 : ¬ b[k0].1 < a[i0].1), a[i0].1 = b[k0].1 := fun hi hk h3 h4 => by omega
  have ws : ∀ x y : Int, IntKind.i64.wrap (x + y) = wrap64 (x + y) := fun x y => iw _
  refine ⟨fun e => ?_, fun e => ⟨fun lt => ?_, fun ge => ?_⟩⟩
  ·have e := eq_of_beq e
   have hk : ¬ k0 < b.length := by omega
   have hi : i0 < a.length := by omega
   exact ⟨bi hi, _, _, by rw [Int.toNat_natCast]; exact take_bk hi, .inl rfl, room, rfl, LA hi (by rw [nB hk]; intro y hy; cases hy)⟩
  ·have e := ne_of_beq_false e
   have hk : k0 < b.length := by omega
   have lt := of_decide_eq_true lt
   have hi : i0 < a.length := by omega
   refine ⟨bi hi, _, by rw [Int.toNat_natCast]; exact take_b0 hi, bk' hk, _, by rw [Int.toNat_natCast]; exact take_b0 hk, fun c => ?_, fun c => ⟨fun e2 => ?_, fun e2 => ?_⟩⟩
   ·exact ⟨bi hi, _, _, by rw [Int.toNat_natCast]; exact take_bk hi, .inl rfl, room, rfl, LA hi (drop_ge hb hk (of_decide_eq_true c))⟩
   ·have e2 := eq_of_beq e2; omega
   ·have c := of_decide_eq_false c
    refine ⟨bk' hk, _, by rw [Int.toNat_natCast]; exact take_b0 hk, bi hi, _, by rw [Int.toNat_natCast]; exact take_b0 hi, fun d => ?_, fun d => ?_⟩
    ·exact ⟨bk' hk, _, _, by rw [Int.toNat_natCast]; exact take_bk hk, .inl rfl, room, rfl, LB hk (drop_ge ha hi (of_decide_eq_true d))⟩
    ·have d := of_decide_eq_false d
     have ee := two hi hk c d
     refine ⟨bi hi, _, by rw [Int.toNat_natCast]; exact take_b1 hi, bk' hk, _, by rw [Int.toNat_natCast]; exact take_b1 hk, fun z => ?_, fun z => ?_⟩
     ·have z : wrap64 (a[i0].2 + b[k0].2) ≠ 0 := by rw [← ws]; simpa using z
      exact ⟨bi hi, _, by rw [Int.toNat_natCast]; exact take_b0 hi, .inl rfl, room, rfl, ⟨i0 + 1, k0 + 1, _⟩, ⟨by rw [ws, bk_snoc]⟩, ⟨by rw [len_bks, len_bks, List.length_append]; rfl⟩, h1.two ha hb fa hi hk ee z, by show a.length + b.length - (i0 + 1) - (k0 + 1) < _; omega⟩
     ·have z : wrap64 (a[i0].2 + b[k0].2) = 0 := by rw [← ws]; simpa using z
      exact ⟨⟨i0 + 1, k0 + 1, out⟩, ⟨rfl⟩, ⟨rfl⟩, h1.no hi hk ee z, by show a.length + b.length - (i0 + 1) - (k0 + 1) < _; omega⟩
  ·have e := ne_of_beq_false e
   have hk : k0 < b.length := by omega
   have ge := of_decide_eq_false ge
   have hi : ¬ i0 < a.length := by omega
   refine ⟨fun e2 => ?_, fun e2 => ?_⟩
   ·exact ⟨bk' hk, _, _, by rw [Int.toNat_natCast]; exact take_bk hk, .inl rfl, room, rfl, LB hk (by rw [nA hi]; intro y hy; cases hy)⟩
   ·have e2 := ne_of_beq_false e2; omega
theorem q49z (l : Bks) (n t : Int) (hl : WfB l) (al : Asc l) (nl : l.length < 10000000) (hn : iOk n) (ht : iOk t) (h0 : t ≠ 0) : LaxOk PA GA XG (tbl [(71, zIdx), (53, zMrg)]) (itbl []) nAn [] 49 [.sl 2 (bksL l) .no, .int .i64 n, .int .i64 t] (.sl 2 (bksL (normB (l ++ [(idx n, t)]))) .no, []) := by
 constructor
 rw [z49]
 refine ⟨fun e => absurd (eq_of_beq e) h0, fun _ => ⟨idx n, callIs_iff.2 (by rw [tb_hit]; simp only [zIdx]; rw [if_pos hn]), bksL (normB (l ++ [(idx n, t)])), callIs_iff.2 ?_, ⟨rfl, rfl, .inl rfl⟩, rfl, rfl⟩⟩
 have hi : -1920 ≤ idx n ∧ idx n ≤ 1920 := by
  unfold iOk at hn
  unfold idx
  split
  ·have := bk_le (-n).toNat (by omega); omega
  ·have := bk_le n.toNat (by omega); omega
 rw [tb_miss (by decide), tb_hit]
 simp only [zMrg, show unL unBk (bksL l) = some l from unL_map unBk_ok l]
 rw [show unL unBk [AV.agg [.int .i64 (idx n), .int .i64 t]] = some [(idx n, t)] from unL_map unBk_ok [(idx n, t)]]
 simp only
 rw [if_pos ⟨.inl trivial, .inl trivial, hl, fun x hx => by obtain rfl := List.mem_singleton.1 hx; exact ⟨⟨by omega, by omega⟩, ⟨ht.1, by have := ht.2; omega⟩⟩, al, ⟨by simp, fun x hx => by obtain rfl := List.mem_singleton.1 hx; exact h0⟩, by simp; omega⟩]
theorem wk_bks {sz : Nat} {l : Bks} {o : Own} (h : sz = 2 ∨ l = []) : wkA 2 (.sl sz (l.map bkA) o) = .sl 2 (bksL l) .no := by
 cases l with
 | nil => rfl
 | cons x l =>
  obtain rfl : sz = 2 := h.resolve_right (by simp)
  rfl
theorem j80 : SpecOk PA GA 80 zPos := spec_of (X := XG) (m := []) mixedA tbl_nil itbl_nil fun args r h => by
 unfold zPos at h
 split at h
 case h_2 => cases h
 split at h
 case isFalse => cases h
 rename_i n hc
 injection h with h; subst h
 obtain ⟨h0, h1⟩ := hc
 obtain ⟨m, rfl⟩ := Int.eq_ofNat_of_zero_le h0
 exact ⟨_, q80z m (by omega)⟩
theorem j71 : SpecOk PA GA 71 zIdx := spec_of (X := XG) (m := []) mixedA (tbl_cons j80 tbl_nil) itbl_nil fun args r h => by
 unfold zIdx at h
 split at h
 case h_2 => cases h
 split at h
 case isFalse => cases h
 rename_i hc
 injection h with h; subst h
 exact ⟨_, q71z _ hc⟩
theorem j53 : SpecOk PA GA 53 zMrg := lax_ofW (X := XG) (m := []) [2, 2] mixedA tbl_nil itbl_nil fun args r h => by
 unfold zMrg at h
 split at h
 case h_2 => cases h
 split at h
 case h_2 => cases h
 rename_i l m hl hm
 split at h
 case isFalse => cases h
 rename_i hc
 injection h with h; subst h
 obtain rfl := unL_inv unBk_inv hl
 obtain rfl := unL_inv unBk_inv hm
 simp only [wkL]
 rw [wk_bks hc.1, wk_bks hc.2.1]
 exact ⟨_, q53z _ _ hc.2.2.2.2.1 hc.2.2.2.2.2.1 hc.2.2.1 hc.2.2.2.1 hc.2.2.2.2.2.2⟩
theorem j49 : SpecOk PA GA 49 zAddB := lax_ofW (X := XG) (m := []) [2] mixedA (tbl_cons j71 (tbl_cons j53 tbl_nil)) itbl_nil fun args r h => by
 unfold zAddB at h
 split at h
 case h_2 => cases h
 split at h
 case h_2 => cases h
 rename_i l hl
 split at h
 case isFalse => cases h
 rename_i hc
 injection h with h; subst h
 obtain rfl := unL_inv unBk_inv hl
 simp only [wkL]
 rw [wk_bks hc.1]
 exact ⟨_, q49z _ _ _ hc.2.1 hc.2.2.1 hc.2.2.2.1 hc.2.2.2.2.1 hc.2.2.2.2.2.1 hc.2.2.2.2.2.2⟩
end Go.Abs
namespace Go.Abs
open Go.Proofs Go.Proofs.K17 Go.RowKit
theorem all_no {α : Type} {p : α → Bool} {l : List α} {c : α} (h : c ∈ l) (hp : p c = false) : l.all p = false := by
 rw [← Bool.not_eq_true, List.all_eq_true]
 intro hh
 have := hh _ h
 rw [hp] at this; cases this
theorem u8_lt {a b : UInt8} : a < b ↔ a.toNat < b.toNat := UInt8.lt_iff_toNat_lt
theorem cb_eq : ∀ a b, Lib.compareBytes a b = 0 ↔ a = b
 | [], [] => by simp [Lib.compareBytes]
 | [], _ :: _ => by simp [Lib.compareBytes]
 | _ :: _, [] => by simp [Lib.compareBytes]
 | x :: a, y :: b => by
  unfold Lib.compareBytes
  by_cases h1 : x < y
  ·rw [if_pos h1]
   refine ⟨fun h => by omega, fun h => ?_⟩
   injection h with h _; subst h; exact absurd h1 (UInt8.lt_irrefl x)
  ·rw [if_neg h1]
   by_cases h2 : y < x
   ·rw [if_pos h2]
    refine ⟨fun h => by omega, fun h => ?_⟩
    injection h with h _; subst h; exact absurd h2 (UInt8.lt_irrefl x)
   ·rw [if_neg h2, cb_eq a b]
    rw [u8_lt] at h1 h2
    have e : x = y := UInt8.toNat_inj.1 (by omega)
    subst e
    simp
theorem bl_iff : ∀ a b : List UInt8, Op.bytesLess a b = true ↔ Lib.compareBytes a b < 0
 | [], [] => by simp [Op.bytesLess, Lib.compareBytes]
 | [], _ :: _ => by simp [Op.bytesLess, Lib.compareBytes]
 | _ :: _, [] => by simp [Op.bytesLess, Lib.compareBytes]
 | x :: a, y :: b => by
  have ih := bl_iff a b
  unfold Op.bytesLess Lib.compareBytes
  by_cases h1 : x < y
  ·simp [h1]
  ·by_cases h2 : y < x
   ·have ne : ¬ x = y := fun e => by subst e; exact UInt8.lt_irrefl x h2
    simp [h1, h2, ne]
   ·simp only [h1, h2, if_false]
    have e : x = y := by
     rw [u8_lt] at h1 h2
     exact UInt8.toNat_inj.1 (by omega)
    simp [e, ih]
def lex {α β : Type} (f : α → α → Int) (g : β → β → Int) (p q : α × β) : Int := if f p.1 q.1 = 0 then g p.2 q.2 else f p.1 q.1
abbrev KeyT := List UInt8 × Int × Int × Int × List UInt8
def kap (x : ItI) : KeyT := (x.src, x.q, x.k, x.n, x.s)
def cmpK : KeyT → KeyT → Int := lex Lib.compareBytes (lex Lib.compareInt (lex Lib.compareInt (lex Lib.compareInt Lib.compareBytes)))
def ky (f : Bool) (x : ItI) : KeyT := kap (markI f x)
def Nrm (f : Bool) (x : ItI) : Prop := (markI f x).setC x.c = x
def sm (g : ItI → Int) : List ItI → Int
 | [] => 0
 | x :: l => g x + sm g l
theorem sm_perm (g : ItI → Int) {a b : List ItI} (h : a.Perm b) : sm g a = sm g b := by
 induction h with
 | nil => rfl
 | cons x _ ih => simp only [sm, ih]
 | swap x y l => simp only [sm]; omega
 | trans _ _ h1 h2 => omega
def cntG (f : Bool) (k : KeyT) (x : ItI) : Int := if ky f x = k then x.c else 0
abbrev cnt (f : Bool) (l : List ItI) (k : KeyT) : Int := sm (cntG f k) l
structure Srt (f : Bool) (l : List ItI) : Prop where
 asc : l.Pairwise fun a b => cmpK (ky f a) (ky f b) < 0
 nrm : ∀ x ∈ l, Nrm f x ∧ x.c ≠ 0 ∧ iOk x.c
theorem Srt.tail {f : Bool} {x : ItI} {l : List ItI} (h : Srt f (x :: l)) : Srt f l := ⟨(List.pairwise_cons.1 h.asc).2, fun y hy => h.nrm y (by simp [hy])⟩
theorem Srt.head {f : Bool} {x : ItI} {l : List ItI} (h : Srt f (x :: l)) : ∀ y ∈ l, cmpK (ky f x) (ky f y) < 0 := (List.pairwise_cons.1 h.asc).1
def gT (x : ItI) : Int := x.n * x.c
def gB (k : Int) (x : ItI) : Int := if idx x.n = k then x.c else 0
structure Eqv (L M : List ItI) : Prop where
 n : sm ItI.c L = sm ItI.c M
 t : sm gT L = sm gT M
 c : ∀ f k, cnt f L k = cnt f M k
 b : ∀ k, sm (gB k) L = sm (gB k) M
theorem Eqv.perm {L M : List ItI} (h : L.Perm M) : Eqv L M := ⟨sm_perm _ h, sm_perm _ h, fun _ _ => sm_perm _ h, fun _ => sm_perm _ h⟩
theorem Eqv.refl (L : List ItI) : Eqv L L := .perm (.refl L)
theorem asc_nil : Asc [] := ⟨List.Pairwise.nil, fun x h => by cases h⟩
theorem g0 {x : ItI} (h : x.c = 0) : gT x = 0 ∧ (∀ f k, cntG f k x = 0) ∧ ∀ k, gB k x = 0 := by
 refine ⟨by unfold gT; rw [h, Int.mul_zero], fun f k => ?_, fun k => ?_⟩
 ·unfold cntG; rw [h]; split <;> rfl
 ·unfold gB; rw [h]; split <;> rfl
/-! laws of Merge -/
end Go.Abs
namespace Go.Abs
open Go.Proofs Go.Proofs.K17 Go.Proofs.D17 Go.RowKit
def smI (x : ItI) : Bool := decide (x.s.length ≤ 100) && decide (x.src.length ≤ 100)
def smallP (l : List ItI) : Bool := l.all smI && decide (l.length ≤ 40)
def v21 : Spec := fun args => match args with
 | [.sl sz es _] => match unL unI es with
  | some l => if (sz = 6 ∨ l = []) ∧ l.length ≤ maxLen then some (.bool (smallP l), []) else none
  | none => none
 | _ => none
def okI (x : ItI) : Prop := itOk x ∧ iOk x.k ∧ x.s.length ≤ 100
instance (x : ItI) : Decidable (okI x) := inferInstanceAs (Decidable (_ ∧ _ ∧ _))
def a21 (l : List ItI) : Anns := ⟨fun k => if k = 2 then some { α := Nat, slots := [0, 3], nb := 0, vals := fun i => [.sl 6 (itsL l) .no, .int .i64 i], sS := fun _ => ⟨[], []⟩, I := fun i => i ≤ l.length ∧ (l.take i).all smI = true, μ := fun i => l.length - i } else none, nA⟩
def XU : Shapes := fun f => match f with
 | 7 => some (.val (.one (.is (.bool true))), none)
 | 12 | 21 | 8 => some shB
 | 33 | 36 | 13 | 9 => some shV
 | 10 => some shSt
 | 11 | 35 => some shI
 | 2000026 => some shV
 | f => XN f
def sumO (op : List UInt8) : Bool := op == bSum || op == bMean || op == bDecay
def valO (op : List UInt8) : Bool := op == bMin || op == bMax || op == bDistinct
def ordO (op : List UInt8) : Bool := op == bFirst || op == bLast
def invO (op : List UInt8) : Bool := op == bCount || sumO op || op == bDistinct || op == bQuantile
def zB (f : List UInt8 → Bool) : Spec := fun args => match args with
 | [.str op] => some (.bool (f op), [])
 | _ => none
def z46s : Spec := zB sumO
def z50s : Spec := zB valO
def z51s : Spec := zB ordO
def z23s : Spec := zB fun op => (famO op).isSome
def z25s : Spec := zB invO
def z24s : Spec := zB invO
def zEmpty : Spec := fun args => match args with
 | [.str _] => some (stA StI.z, [])
 | _ => none
def zOrd : Spec := fun args => match args with
 | [.int .i64 a, .int .i64 b] => some (.int .i64 (Lib.compareInt a b), [])
 | _ => none
def zCmpV : Spec := s105
def zCmpI : Spec := s111
def zMark : Spec := fun args => match args with
 | [.str op, .agg [.int .i64 k, .int .i64 n, .str s, .str src, .int .i64 q, .int .i64 c]] => some (itA (markI (!valO op) ⟨k, n, s, src, q, c⟩), [])
 | _ => none
def zPut : Spec := fun args => match args with
 | [.str op, .sl sz es _, .agg [.int .i64 k, .int .i64 n, .str s, .str src, .int .i64 q, .int .i64 c]] => match unL unI es with
  | some l => if (sz = 6 ∨ l = []) ∧ l.length ≤ 1000000 then some (.sl 6 (itsL (insI (!valO op) l ⟨k, n, s, src, q, c⟩)) .no, []) else none
  | none => none
 | _ => none
def atP (f : Bool) (m : ItI) (l : List ItI) (p : Nat) : Int := match (l.drop p).findIdx? (fun y => decide (markI f y = m)) with
 | some j => ((p + j : Nat) : Int)
 | none => -1
def behP (f : Bool) (m : ItI) (l : List ItI) (p : Nat) : Int := match (l.drop p).findIdx? (fun y => decide (0 < cmpI (markI f y) m)) with
 | some j => ((p + j : Nat) : Int)
 | none => l.length
def nowP (c at_ : Int) (i : Nat) (y : ItI) : ItI := if (i : Int) = at_ then y.setC (wrap64 (y.c + c)) else y
def insP (m : ItI) (c at_ beh : Int) (i : Nat) : List ItI := if at_ < 0 ∧ (i : Int) = beh then [m.setC c] else []
def putO (m : ItI) (c at_ beh : Int) (l : List ItI) : Nat → List ItI
 | 0 => []
 | i + 1 => putO m c at_ beh l i ++ (match l[i]? with
  | some y => insP m c at_ beh i ++ (if (nowP c at_ i y).c = 0 ∧ (i : Int) = at_ then [] else [nowP c at_ i y])
  | none => [])
def mC (c at_ beh : Int) (i : Nat) : Int := if at_ < 0 ∧ beh < (i : Int) then c else 0
structure KP where
 i : Nat
 y : ItI
 z : ItI
 n : ItI
 out : List ItI
def zA52 (op : List UInt8) (f : Bool) (l : List ItI) (x : ItI) (m : ItI) (a0 b0 : Int) : Anns :=
 ⟨fun k => match k with
 | 5 => some { α := Nat, slots := [0, 1, 5, 7, 8, 9, 10], nb := 2, vals := fun p => [.str op, .sl 6 (itsL l) .no, .ptr 0 0, .ptr 1 0, .int .i64 (atP f m l p), .int .i64 (behP f m l p), .int .i64 ((p : Int) - 1)], sS := fun _ => ⟨[some (itC x), some (itC m)], []⟩, I := fun p => p ≤ l.length, μ := fun p => p }
 | 1000009 => some { α := Nat, slots := [0, 1, 5, 7, 8, 9, 10], nb := 2, vals := fun p => [.str op, .sl 6 (itsL l) .no, .ptr 0 0, .ptr 1 0, .int .i64 (atP f m l p), .int .i64 (behP f m l (p + 1)), .int .i64 (p : Int)], sS := fun _ => ⟨[some (itC x), some (itC m)], []⟩, I := fun p => p < l.length, μ := fun _ => 0, rel := fun T p => T[10]? = some (.int .i64 (((p + 1 : Nat) : Int) - 1)) }
 | 13 => some { α := KP, slots := [1, 5, 7, 8, 9, 11, 12], nb := 2, vals := fun p => [.sl 6 (itsL l) .no, .ptr 0 0, .ptr 1 0, .int .i64 a0, .int .i64 b0, .sl 6 (itsL p.out) (.tok 0), .int .i64 p.i], sS := fun p => ⟨[some (itC x), some (itC p.n)], [((itsL p.out).length, 51)]⟩, I := fun p => p.i ≤ l.length ∧ p.n = m.setC (mC x.c a0 b0 p.i) ∧ p.out = putO m x.c a0 b0 l p.i, μ := fun p => l.length - p.i, mint := [(11, 51)] }
 | 1000018 => some { α := KP, slots := [1, 5, 7, 8, 9, 11, 12, 13], nb := 3, vals := fun p => [.sl 6 (itsL l) .no, .ptr 0 0, .ptr 1 0, .int .i64 a0, .int .i64 b0, .sl 6 (itsL p.out) (.tok 0), .int .i64 p.i, .ptr 2 0], sS := fun p => ⟨[some (itC x), some (itC p.n), some (itC p.z)], [((itsL p.out).length, 51)]⟩, I := fun p => l[p.i]? = some p.y ∧ p.z = nowP x.c a0 p.i p.y ∧ p.n = m.setC (mC x.c a0 b0 p.i) ∧ p.out = putO m x.c a0 b0 l p.i, μ := fun _ => 0, rel := fun T p => T[12]? = some (.int .i64 p.i) }
 | 1000021 => some { α := KP, slots := [1, 5, 7, 8, 9, 11, 12, 13], nb := 3, vals := fun p => [.sl 6 (itsL l) .no, .ptr 0 0, .ptr 1 0, .int .i64 a0, .int .i64 b0, .sl 6 (itsL p.out) (.tok 0), .int .i64 p.i, .ptr 2 0], sS := fun p => ⟨[some (itC x), some (itC p.n), some (itC p.z)], [((itsL p.out).length, 51)]⟩, I := fun p => l[p.i]? = some p.y ∧ p.z = nowP x.c a0 p.i p.y ∧ p.n = m.setC (mC x.c a0 b0 (p.i + 1)) ∧ p.out = putO m x.c a0 b0 l p.i ++ insP m x.c a0 b0 p.i, μ := fun _ => 0, rel := fun T p => T[12]? = some (.int .i64 p.i) }
 | _ => none, nA⟩
def shIts2 : Sh × Option TypeId := (.val (.one (.sl 6 .no)), none)
def XH7 : Shapes := fun f => match f with
 | 46 | 50 | 51 | 23 | 22 | 24 | 25 => some shB
 | 84 | 81 | 73 => some shI
 | 72 => some shIt
 | 52 => some shIts2
 | 2000051 => some shIt
 | f => XG f
theorem z46 (op : List UInt8) (r : AV) : (pureW PA GA XH7 (tbl []) (itbl []) nAn [] 46 [.str op] (r, [])) =
(((op == [(115 : UInt8), (117 : UInt8), (109 : UInt8)]) = true → RetIs (AV.bool true) [] (r, [])) ∧ ((op == [(115 : UInt8), (117 : UInt8), (109 : UInt8)]) = false → ((op == [(109 : UInt8), (101 : UInt8), (97 : UInt8), (110 : UInt8)]) = true → RetIs (AV.bool true) [] (r, [])) ∧ ((op == [(109 : UInt8), (101 : UInt8), (97 : UInt8), (110 : UInt8)]) = false → ((op == [(100 : UInt8), (101 : UInt8), (99 : UInt8), (97 : UInt8), (121 : UInt8)]) = true → RetIs (AV.bool true) [] (r, [])) ∧ ((op == [(100 : UInt8), (101 : UInt8), (99 : UInt8), (97 : UInt8), (121 : UInt8)]) = false → RetIs (AV.bool false) [] (r, []))))) := by kernel_rfl
theorem z50 (op : List UInt8) (r : AV) : (pureW PA GA XH7 (tbl []) (itbl []) nAn [] 50 [.str op] (r, [])) =
(((op == [(109 : UInt8), (105 : UInt8), (110 : UInt8)]) = true → RetIs (AV.bool true) [] (r, [])) ∧ ((op == [(109 : UInt8), (105 : UInt8), (110 : UInt8)]) = false → ((op == [(109 : UInt8), (97 : UInt8), (120 : UInt8)]) = true → RetIs (AV.bool true) [] (r, [])) ∧ ((op == [(109 : UInt8), (97 : UInt8), (120 : UInt8)]) = false → ((op == [(100 : UInt8), (105 : UInt8), (115 : UInt8), (116 : UInt8), (105 : UInt8), (110 : UInt8), (99 : UInt8), (116 : UInt8)]) = true → RetIs (AV.bool true) [] (r, [])) ∧ ((op == [(100 : UInt8), (105 : UInt8), (115 : UInt8), (116 : UInt8), (105 : UInt8), (110 : UInt8), (99 : UInt8), (116 : UInt8)]) = false → RetIs (AV.bool false) [] (r, []))))) := by kernel_rfl
theorem z51 (op : List UInt8) (r : AV) : (pureW PA GA XH7 (tbl []) (itbl []) nAn [] 51 [.str op] (r, [])) =
(((op == [(102 : UInt8), (105 : UInt8), (114 : UInt8), (115 : UInt8), (116 : UInt8)]) = true → RetIs (AV.bool true) [] (r, [])) ∧ ((op == [(102 : UInt8), (105 : UInt8), (114 : UInt8), (115 : UInt8), (116 : UInt8)]) = false → ((op == [(108 : UInt8), (97 : UInt8), (115 : UInt8), (116 : UInt8)]) = true → RetIs (AV.bool true) [] (r, [])) ∧ ((op == [(108 : UInt8), (97 : UInt8), (115 : UInt8), (116 : UInt8)]) = false → RetIs (AV.bool false) [] (r, [])))) := by kernel_rfl
theorem z23 (op : List UInt8) (r : AV) : (pureW PA GA XH7 (tbl []) (itbl []) nAn [] 23 [.str op] (r, [])) =
(((op == [(99 : UInt8), (111 : UInt8), (117 : UInt8), (110 : UInt8), (116 : UInt8)]) = true → RetIs (AV.bool true) [] (r, [])) ∧ ((op == [(99 : UInt8), (111 : UInt8), (117 : UInt8), (110 : UInt8), (116 : UInt8)]) = false → ((op == [(115 : UInt8), (117 : UInt8), (109 : UInt8)]) = true → RetIs (AV.bool true) [] (r, [])) ∧ ((op == [(115 : UInt8), (117 : UInt8), (109 : UInt8)]) = false → ((op == [(109 : UInt8), (101 : UInt8), (97 : UInt8), (110 : UInt8)]) = true → RetIs (AV.bool true) [] (r, [])) ∧ ((op == [(109 : UInt8), (101 : UInt8), (97 : UInt8), (110 : UInt8)]) = false → ((op == [(109 : UInt8), (105 : UInt8), (110 : UInt8)]) = true → RetIs (AV.bool true) [] (r, [])) ∧ ((op == [(109 : UInt8), (105 : UInt8), (110 : UInt8)]) = false → ((op == [(109 : UInt8), (97 : UInt8), (120 : UInt8)]) = true → RetIs (AV.bool true) [] (r, [])) ∧ ((op == [(109 : UInt8), (97 : UInt8), (120 : UInt8)]) = false → ((op == [(102 : UInt8), (105 : UInt8), (114 : UInt8), (115 : UInt8), (116 : UInt8)]) = true → RetIs (AV.bool true) [] (r, [])) ∧ ((op == [(102 : UInt8), (105 : UInt8), (114 : UInt8), (115 : UInt8), (116 : UInt8)]) = false → ((op == [(108 : UInt8), (97 : UInt8), (115 : UInt8), (116 : UInt8)]) = true → RetIs (AV.bool true) [] (r, [])) ∧ ((op == [(108 : UInt8), (97 : UInt8), (115 : UInt8), (116 : UInt8)]) = false → ((op == [(100 : UInt8), (105 : UInt8), (115 : UInt8), (116 : UInt8), (105 : UInt8), (110 : UInt8), (99 : UInt8), (116 : UInt8)]) = true → RetIs (AV.bool true) [] (r, [])) ∧ ((op == [(100 : UInt8), (105 : UInt8), (115 : UInt8), (116 : UInt8), (105 : UInt8), (110 : UInt8), (99 : UInt8), (116 : UInt8)]) =
 false → ((op == [(113 : UInt8), (117 : UInt8), (97 : UInt8), (110 : UInt8), (116 : UInt8), (105 : UInt8), (108 : UInt8), (101 : UInt8)]) = true → RetIs (AV.bool true) [] (r, [])) ∧ ((op == [(113 : UInt8), (117 : UInt8), (97 : UInt8), (110 : UInt8), (116 : UInt8), (105 : UInt8), (108 : UInt8), (101 : UInt8)]) = false → ((op == [(100 : UInt8), (101 : UInt8), (99 : UInt8), (97 : UInt8), (121 : UInt8)]) = true → RetIs (AV.bool true) [] (r, [])) ∧ ((op == [(100 : UInt8), (101 : UInt8), (99 : UInt8), (97 : UInt8), (121 : UInt8)]) = false → RetIs (AV.bool false) [] (r, [])))))))))))) := by kernel_rfl
theorem z25 (op : List UInt8) (r : AV) : (pureW PA GA XH7 (tbl [(46, z46s)]) (itbl []) nAn [] 25 [.str op] (r, [])) =
(((op == [(99 : UInt8), (111 : UInt8), (117 : UInt8), (110 : UInt8), (116 : UInt8)]) = true → RetIs (AV.bool true) [] (r, [])) ∧ ((op == [(99 : UInt8), (111 : UInt8), (117 : UInt8), (110 : UInt8), (116 : UInt8)]) = false → ∃ (b : Bool), CallIs (some (AV.bool (sumO op), [])) (AV.bool b) [] ∧ (b = true → RetIs (AV.bool true) [] (r, [])) ∧ (b = false → ((op == [(100 : UInt8), (105 : UInt8), (115 : UInt8), (116 : UInt8), (105 : UInt8), (110 : UInt8), (99 : UInt8), (116 : UInt8)]) = true → RetIs (AV.bool true) [] (r, [])) ∧ ((op == [(100 : UInt8), (105 : UInt8), (115 : UInt8), (116 : UInt8), (105 : UInt8), (110 : UInt8), (99 : UInt8), (116 : UInt8)]) = false → ((op == [(113 : UInt8), (117 : UInt8), (97 : UInt8), (110 : UInt8), (116 : UInt8), (105 : UInt8), (108 : UInt8), (101 : UInt8)]) = true → RetIs (AV.bool true) [] (r, [])) ∧ ((op == [(113 : UInt8), (117 : UInt8), (97 : UInt8), (110 : UInt8), (116 : UInt8), (105 : UInt8), (108 : UInt8), (101 : UInt8)]) = false → RetIs (AV.bool false) [] (r, [])))))) := by kernel_rfl
theorem z24 (op : List UInt8) (r : AV) : (pureW PA GA XH7 (tbl [(22, s22)]) (itbl []) nAn [] 24 [.str op] (r, [])) =
(∃ (b : Bool), CallIs (some (AV.bool (famO op).isSome, [])) (AV.bool b) [] ∧ (b = true → ((!op == [(109 : UInt8), (105 : UInt8), (110 : UInt8)]) = true → ((!op == [(109 : UInt8), (97 : UInt8), (120 : UInt8)]) = true → ((!op == [(102 : UInt8), (105 : UInt8), (114 : UInt8), (115 : UInt8), (116 : UInt8)]) = true → ((!op == [(108 : UInt8), (97 : UInt8), (115 : UInt8), (116 : UInt8)]) = true → RetIs (AV.bool true) [] (r, [])) ∧ ((!op == [(108 : UInt8), (97 : UInt8), (115 : UInt8), (116 : UInt8)]) = false → RetIs (AV.bool false) [] (r, []))) ∧ ((!op == [(102 : UInt8), (105 : UInt8), (114 : UInt8), (115 : UInt8), (116 : UInt8)]) = false → RetIs (AV.bool false) [] (r, []))) ∧ ((!op == [(109 : UInt8), (97 : UInt8), (120 : UInt8)]) = false → RetIs (AV.bool false) [] (r, []))) ∧ ((!op == [(109 : UInt8), (105 : UInt8), (110 : UInt8)]) = false → RetIs (AV.bool false) [] (r, []))) ∧ (b = false → RetIs (AV.bool false) [] (r, []))) := by kernel_rfl
theorem z84 (a b : Int) (r : AV) : (pureW PA GA XH7 (tbl []) (itbl []) nAn [] 84 [.int .i64 a, .int .i64 b] (r, [])) =
((decide (a < b) = true → RetIs (AV.int IntKind.i64 (-1 : Int)) [] (r, [])) ∧ (decide (a < b) = false → (decide (a > b) = true → RetIs (AV.int IntKind.i64 1) [] (r, [])) ∧ (decide (a > b) = false → RetIs (AV.int IntKind.i64 0) [] (r, [])))) := by kernel_rfl
theorem z81 (k n k' n' : Int) (s s' : List UInt8) (r : AV) : (pureW PA GA XH7 (tbl [(84, zOrd)]) (itbl []) nAn [] 81 [.agg [.int .i64 k, .int .i64 n, .str s], .agg [.int .i64 k', .int .i64 n', .str s']] (r, [])) =
(((k != k') = true → ∃ (n : Int), CallIs (some (AV.int IntKind.i64 (Lib.compareInt k k'), [])) (AV.int IntKind.i64 n) [] ∧ RetIs (AV.int IntKind.i64 n) [] (r, [])) ∧ ((k != k') = false → ((n != n') = true → ∃ (n_1 : Int), CallIs (some (AV.int IntKind.i64 (Lib.compareInt n n'), [])) (AV.int IntKind.i64 n_1) [] ∧ RetIs (AV.int IntKind.i64 n_1) [] (r, [])) ∧ ((n != n') = false → (Op.bytesLess s s' = true → RetIs (AV.int IntKind.i64 (-1 : Int)) [] (r, [])) ∧ (Op.bytesLess s s' = false → ((!(Op.bytesLess s s' || s == s')) = true → RetIs (AV.int IntKind.i64 1) [] (r, [])) ∧ ((!(Op.bytesLess s s' || s == s')) = false → RetIs (AV.int IntKind.i64 0) [] (r, [])))))) := by kernel_rfl
theorem z73 (x y : ItI) (r : AV) : (pureW PA GA XH7 (tbl [(81, zCmpV)]) (itbl []) nAn [] 73 [.agg (itC x), .agg (itC y)] (r, [])) =
(((!x.src == y.src) = true → (Op.bytesLess x.src y.src = true → RetIs (AV.int IntKind.i64 (-1 : Int)) [] (r, [])) ∧ (Op.bytesLess x.src y.src = false → RetIs (AV.int IntKind.i64 1) [] (r, []))) ∧ ((!x.src == y.src) = false → ((x.q != y.q) = true → (decide (x.q < y.q) = true → RetIs (AV.int IntKind.i64 (-1 : Int)) [] (r, [])) ∧ (decide (x.q < y.q) = false → RetIs (AV.int IntKind.i64 1) [] (r, []))) ∧ ((x.q != y.q) = false → ∃ (n : Int), CallIs (some (AV.int IntKind.i64 (cmpV x.k x.n x.s y.k y.n y.s), [])) (AV.int IntKind.i64 n) [] ∧ RetIs (AV.int IntKind.i64 n) [] (r, [])))) := by kernel_rfl
theorem z72 (op : List UInt8) (x : ItI) (r : AV) : (pureW PA GA XH7 (tbl [(50, z50s)]) (itbl []) nAn [] 72 [.str op, .agg (itC x)] (r, [])) =
(∃ (b : Bool), CallIs (some (AV.bool (valO op), [])) (AV.bool b) [] ∧ (b = true → RetIs (AV.agg [.int .i64 x.k, .int .i64 x.n, .str x.s, .str [], .int .i64 0, .int .i64 0]) [] (r, [])) ∧ (b = false → RetIs (AV.agg [.int .i64 x.k, .int .i64 x.n, .str x.s, .str x.src, .int .i64 x.q, .int .i64 0]) [] (r, []))) := by kernel_rfl
theorem z52 (op : List UInt8) (f : Bool) (l : List ItI) (x m : ItI) (a0 b0 : Int) (r : AV) : (laxW PA GA XH7 (tbl [(72, zMark), (73, zCmpI)]) (itbl []) (zA52 op f l x m a0 b0) [] 52 [.str op, .sl 6 (itsL l) .no, .agg (itC x)] (r, [])) =
(∃ (n : Int) (n_1 : Int) (s : List UInt8) (s_1 : List UInt8) (n_2 : Int) (n_3 : Int), CallIs (some (AV.agg [.int .i64 (markI (!valO op) { k := x.k, n := x.n, s := x.s, src := x.src, q := x.q, c := x.c }).k, .int .i64 (markI (!valO op) { k := x.k, n := x.n, s := x.s, src := x.src, q := x.q, c := x.c }).n, .str (markI (!valO op) { k := x.k, n := x.n, s := x.s, src := x.src, q := x.q, c := x.c }).s, .str (markI (!valO op) { k := x.k, n := x.n, s := x.s, src := x.src, q := x.q, c := x.c }).src, .int .i64 (markI (!valO op) { k := x.k, n := x.n, s := x.s, src := x.src, q := x.q, c := x.c }).q, .int .i64 (markI (!valO op) { k := x.k, n := x.n, s := x.s, src := x.src, q := x.q, c := x.c }).c], [])) (AV.agg [.int .i64 n, .int .i64 n_1, .str s, .str s_1, .int .i64 n_2, .int .i64 n_3]) [] ∧ (∃ (y : Nat), ValsAre [.str op, .sl 6 (itsL l) .no, .ptr 0 0, .ptr 1 0, .int .i64 (-1 : Int), .int .i64 (↑(itsL l).length : Int), .int .i64 (IntKind.i64.wrap ((↑(itsL l).length : Int) - (1 : Int)))] [.str op, .sl 6 (itsL l) .no, .ptr 0 0, .ptr 1 0, .int .i64 (atP f m l y), .int .i64 (behP f m l y), .int .i64 ((↑y : Int) - (1 : Int))] ∧ StIs { boxes := [some (itC x), some [.int .i64 n, .int .i64 n_1, .str s, .str s_1, .int .i64 n_2, .int .i64 n_3]], live := [] } { boxes := [some (itC x), some (itC m)], live := [] } ∧ y ≤ l.length ∧ True) ∧ ∀ (x_1 : Nat), x_1 ≤ l.length → (decide ((↑x_1 : Int) - (1 : Int) ≥ (0 : Int)) = true → ((0 ≤ (↑x_1 : Int) - (1 : Int) ∧ (↑x_1 : Int) - (1 : Int) < (↑(itsL l).length : Int)) ∧
 ∃ (n : Int) (n_4 : Int) (s : List UInt8) (s_2 : List UInt8) (n_5 : Int) (n_6 : Int), takeAt PA 51 (itsL l) ((↑x_1 : Int) - (1 : Int)).toNat 0 = some (AV.agg [.int .i64 n, .int .i64 n_4, .str s, .str s_2, .int .i64 n_5, .int .i64 n_6]) ∧ ∃ (n_7 : Int) (n_8 : Int) (s_3 : List UInt8) (s_4 : List UInt8) (n_9 : Int) (n_10 : Int), CallIs (some (AV.agg [.int .i64 (markI (!valO op) { k := n, n := n_4, s := s, src := s_2, q := n_5, c := n_6 }).k, .int .i64 (markI (!valO op) { k := n, n := n_4, s := s, src := s_2, q := n_5, c := n_6 }).n, .str (markI (!valO op) { k := n, n := n_4, s := s, src := s_2, q := n_5, c := n_6 }).s, .str (markI (!valO op) { k := n, n := n_4, s := s, src := s_2, q := n_5, c := n_6 }).src, .int .i64 (markI (!valO op) { k := n, n := n_4, s := s, src := s_2, q := n_5, c := n_6 }).q, .int .i64 (markI (!valO op) { k := n, n := n_4, s := s, src := s_2, q := n_5, c := n_6 }).c], [])) (AV.agg [.int .i64 n_7, .int .i64 n_8, .str s_3, .str s_4, .int .i64 n_9, .int .i64 n_10]) [] ∧ ((n_7 == m.k && (n_8 == m.n && (s_3 == m.s && true)) && (s_4 == m.src && (n_9 == m.q && true) && (n_10 == m.c && true))) = true → ∃ (y : Nat), ValsAre [.str op, .sl 6 (itsL l) .no, .ptr 0 0, .ptr 1 0, .int .i64 ((↑x_1 : Int) - (1 : Int)), .int .i64 (behP f m l x_1), .int .i64 ((↑x_1 : Int) - (1 : Int))] [.str op, .sl 6 (itsL l) .no, .ptr 0 0, .ptr 1 0, .int .i64 (atP f m l y), .int .i64 (behP f m l (y + (1 : Nat))), .int .i64 (↑y : Int)] ∧ StIs { boxes := [some (itC x), some (itC m)], live := [] }
 { boxes := [some (itC x), some (itC m)], live := [] } ∧ y < l.length ∧ some (AV.int IntKind.i64 ((↑x_1 : Int) - (1 : Int))) = some (AV.int IntKind.i64 ((↑(y + (1 : Nat)) : Int) - (1 : Int)))) ∧ ((n_7 == m.k && (n_8 == m.n && (s_3 == m.s && true)) && (s_4 == m.src && (n_9 == m.q && true) && (n_10 == m.c && true))) = false → ∃ (y : Nat), ValsAre [.str op, .sl 6 (itsL l) .no, .ptr 0 0, .ptr 1 0, .int .i64 (atP f m l x_1), .int .i64 (behP f m l x_1), .int .i64 ((↑x_1 : Int) - (1 : Int))] [.str op, .sl 6 (itsL l) .no, .ptr 0 0, .ptr 1 0, .int .i64 (atP f m l y), .int .i64 (behP f m l (y + (1 : Nat))), .int .i64 (↑y : Int)] ∧ StIs { boxes := [some (itC x), some (itC m)], live := [] } { boxes := [some (itC x), some (itC m)], live := [] } ∧ y < l.length ∧ some (AV.int IntKind.i64 ((↑x_1 : Int) - (1 : Int))) = some (AV.int IntKind.i64 ((↑(y + (1 : Nat)) : Int) - (1 : Int))))) ∧ ∀ (x_2 : Nat), x_2 < l.length → some (AV.int IntKind.i64 ((↑x_1 : Int) - (1 : Int))) = some (AV.int IntKind.i64 ((↑(x_2 + (1 : Nat)) : Int) - (1 : Int))) → (0 ≤ (↑x_2 : Int) ∧ (↑x_2 : Int) < (↑(itsL l).length : Int)) ∧ ∃ (n : Int) (n_4 : Int) (s : List UInt8) (s_2 : List UInt8) (n_5 : Int) (n_6 : Int), takeAt PA 51 (itsL l) (↑x_2 : Int).toNat 0 = some (AV.agg [.int .i64 n, .int .i64 n_4, .str s, .str s_2, .int .i64 n_5, .int .i64 n_6]) ∧ ∃ (n_7 : Int) (n_8 : Int) (s_3 : List UInt8) (s_4 : List UInt8) (n_9 : Int) (n_10 : Int), CallIs (some (AV.agg [.int .i64 (markI (!valO op) { k := n, n := n_4, s := s, src := s_2, q := n_5, c := n_6 }).k,
 .int .i64 (markI (!valO op) { k := n, n := n_4, s := s, src := s_2, q := n_5, c := n_6 }).n, .str (markI (!valO op) { k := n, n := n_4, s := s, src := s_2, q := n_5, c := n_6 }).s, .str (markI (!valO op) { k := n, n := n_4, s := s, src := s_2, q := n_5, c := n_6 }).src, .int .i64 (markI (!valO op) { k := n, n := n_4, s := s, src := s_2, q := n_5, c := n_6 }).q, .int .i64 (markI (!valO op) { k := n, n := n_4, s := s, src := s_2, q := n_5, c := n_6 }).c], [])) (AV.agg [.int .i64 n_7, .int .i64 n_8, .str s_3, .str s_4, .int .i64 n_9, .int .i64 n_10]) [] ∧ ∃ (n : Int), CallIs (some (AV.int IntKind.i64 (cmpI { k := n_7, n := n_8, s := s_3, src := s_4, q := n_9, c := n_10 } { k := m.k, n := m.n, s := m.s, src := m.src, q := m.q, c := m.c }), [])) (AV.int IntKind.i64 n) [] ∧ (decide (n > (0 : Int)) = true → ∃ (y : Nat), ValsAre [.str op, .sl 6 (itsL l) .no, .ptr 0 0, .ptr 1 0, .int .i64 (atP f m l x_2), .int .i64 (↑x_2 : Int), .int .i64 (IntKind.i64.wrap ((↑x_2 : Int) - (1 : Int)))] [.str op, .sl 6 (itsL l) .no, .ptr 0 0, .ptr 1 0, .int .i64 (atP f m l y), .int .i64 (behP f m l y), .int .i64 ((↑y : Int) - (1 : Int))] ∧ StIs { boxes := [some (itC x), some (itC m)], live := [] } { boxes := [some (itC x), some (itC m)], live := [] } ∧ y ≤ l.length ∧ y < x_1) ∧ (decide (n > (0 : Int)) = false → ∃ (y : Nat), ValsAre [.str op, .sl 6 (itsL l) .no, .ptr 0 0, .ptr 1 0, .int .i64 (atP f m l x_2), .int .i64 (behP f m l (x_2 + (1 : Nat))), .int .i64 (IntKind.i64.wrap ((↑x_2 : Int) - (1 : Int)))]
 [.str op, .sl 6 (itsL l) .no, .ptr 0 0, .ptr 1 0, .int .i64 (atP f m l y), .int .i64 (behP f m l y), .int .i64 ((↑y : Int) - (1 : Int))] ∧ StIs { boxes := [some (itC x), some (itC m)], live := [] } { boxes := [some (itC x), some (itC m)], live := [] } ∧ y ≤ l.length ∧ y < x_1)) ∧ (decide ((↑x_1 : Int) - (1 : Int) ≥ (0 : Int)) = false → (∃ (y : KP), ValsAre [.sl 6 (itsL l) .no, .ptr 0 0, .ptr 1 0, .int .i64 (atP f m l x_1), .int .i64 (behP f m l x_1), .sl 6 [] (.tok (0 : Nat)), .int .i64 0] [.sl 6 (itsL l) .no, .ptr 0 0, .ptr 1 0, .int .i64 a0, .int .i64 b0, .sl 6 (itsL y.out) (.tok 0), .int .i64 (↑y.i : Int)] ∧ StIs { boxes := [some (itC x), some (itC m)], live := [((0 : Nat), (51 : Nat))] } { boxes := [some (itC x), some (itC y.n)], live := [((itsL y.out).length, (51 : Nat))] } ∧ (y.i ≤ l.length ∧ y.n = m.setC (mC x.c a0 b0 y.i) ∧ y.out = putO m x.c a0 b0 l y.i) ∧ True) ∧ ∀ (x_2 : KP), x_2.i ≤ l.length ∧ x_2.n = m.setC (mC x.c a0 b0 x_2.i) ∧ x_2.out = putO m x.c a0 b0 l x_2.i → (decide ((↑x_2.i : Int) < (↑(itsL l).length : Int)) = true → (0 ≤ (↑x_2.i : Int) ∧ (↑x_2.i : Int) < (↑(itsL l).length : Int)) ∧ ∃ (n : Int) (n_4 : Int) (s : List UInt8) (s_2 : List UInt8) (n_5 : Int) (n_6 : Int), takeAt PA 51 (itsL l) (↑x_2.i : Int).toNat 0 = some (AV.agg [.int .i64 n, .int .i64 n_4, .str s, .str s_2, .int .i64 n_5, .int .i64 n_6]) ∧ ((((↑x_2.i : Int) == a0) = true → ∃ (y : KP), ValsAre [.sl 6 (itsL l) .no, .ptr 0 0, .ptr 1 0, .int .i64 a0, .int .i64 b0, .sl 6 (itsL x_2.out) (.tok 0), .int .i64 (↑x_2.i : Int),
 .ptr 2 0] [.sl 6 (itsL l) .no, .ptr 0 0, .ptr 1 0, .int .i64 a0, .int .i64 b0, .sl 6 (itsL y.out) (.tok 0), .int .i64 (↑y.i : Int), .ptr 2 0] ∧ StIs { boxes := [some (itC x), some (itC x_2.n), some [.int .i64 n, .int .i64 n_4, .str s, .str s_2, .int .i64 n_5, .int .i64 (IntKind.i64.wrap (n_6 + x.c))]], live := [((itsL x_2.out).length, (51 : Nat))] } { boxes := [some (itC x), some (itC y.n), some (itC y.z)], live := [((itsL y.out).length, (51 : Nat))] } ∧ (l[y.i]? = some y.y ∧ y.z = nowP x.c a0 y.i y.y ∧ y.n = m.setC (mC x.c a0 b0 y.i) ∧ y.out = putO m x.c a0 b0 l y.i) ∧ some (AV.int IntKind.i64 (↑x_2.i : Int)) = some (AV.int IntKind.i64 (↑y.i : Int))) ∧ (((↑x_2.i : Int) == a0) = false → ∃ (y : KP), ValsAre [.sl 6 (itsL l) .no, .ptr 0 0, .ptr 1 0, .int .i64 a0, .int .i64 b0, .sl 6 (itsL x_2.out) (.tok 0), .int .i64 (↑x_2.i : Int), .ptr 2 0] [.sl 6 (itsL l) .no, .ptr 0 0, .ptr 1 0, .int .i64 a0, .int .i64 b0, .sl 6 (itsL y.out) (.tok 0), .int .i64 (↑y.i : Int), .ptr 2 0] ∧ StIs { boxes := [some (itC x), some (itC x_2.n), some [.int .i64 n, .int .i64 n_4, .str s, .str s_2, .int .i64 n_5, .int .i64 n_6]], live := [((itsL x_2.out).length, (51 : Nat))] } { boxes := [some (itC x), some (itC y.n), some (itC y.z)], live := [((itsL y.out).length, (51 : Nat))] } ∧ (l[y.i]? = some y.y ∧ y.z = nowP x.c a0 y.i y.y ∧ y.n = m.setC (mC x.c a0 b0 y.i) ∧ y.out = putO m x.c a0 b0 l y.i) ∧ some (AV.int IntKind.i64 (↑x_2.i : Int)) = some (AV.int IntKind.i64 (↑y.i : Int)))) ∧ ∀ (x_3 : KP), l[x_3.i]? = some x_3.y ∧
 x_3.z = nowP x.c a0 x_3.i x_3.y ∧ x_3.n = m.setC (mC x.c a0 b0 x_3.i) ∧ x_3.out = putO m x.c a0 b0 l x_3.i → some (AV.int IntKind.i64 (↑x_2.i : Int)) = some (AV.int IntKind.i64 (↑x_3.i : Int)) → ((decide (a0 < (0 : Int)) = true → (((↑x_3.i : Int) == b0) = true → ((6 : Nat) = (6 : Nat) ∨ itsL x_3.out = []) ∧ ((itsL x_3.out).length + (1 : Nat)) * (65 : Nat) ≤ (70368744177664 : Nat) ∧ (itsL x_3.out).length = (itsL x_3.out).length ∧ ∃ (y : KP), ValsAre [.sl 6 (itsL l) .no, .ptr 0 0, .ptr 1 0, .int .i64 a0, .int .i64 b0, .sl 6 (itsL x_3.out ++ [.agg [.int .i64 x_3.n.k, .int .i64 x_3.n.n, .str x_3.n.s, .str x_3.n.src, .int .i64 x_3.n.q, .int .i64 x.c]]) (.tok 0), .int .i64 (↑x_3.i : Int), .ptr 2 0] [.sl 6 (itsL l) .no, .ptr 0 0, .ptr 1 0, .int .i64 a0, .int .i64 b0, .sl 6 (itsL y.out) (.tok 0), .int .i64 (↑y.i : Int), .ptr 2 0] ∧ StIs { boxes := [some (itC x), some [.int .i64 x_3.n.k, .int .i64 x_3.n.n, .str x_3.n.s, .str x_3.n.src, .int .i64 x_3.n.q, .int .i64 x.c], some (itC x_3.z)], live := [((itsL x_3.out).length + (1 : Nat), (51 : Nat))] } { boxes := [some (itC x), some (itC y.n), some (itC y.z)], live := [((itsL y.out).length, (51 : Nat))] } ∧ (l[y.i]? = some y.y ∧ y.z = nowP x.c a0 y.i y.y ∧ y.n = m.setC (mC x.c a0 b0 (y.i + (1 : Nat))) ∧ y.out = putO m x.c a0 b0 l y.i ++ insP m x.c a0 b0 y.i) ∧ some (AV.int IntKind.i64 (↑x_3.i : Int)) = some (AV.int IntKind.i64 (↑y.i : Int))) ∧ (((↑x_3.i : Int) == b0) = false → ∃ (y : KP), ValsAre [.sl 6 (itsL l) .no, .ptr 0 0, .ptr 1 0, .int .i64 a0, .int .i64 b0,
 .sl 6 (itsL x_3.out) (.tok 0), .int .i64 (↑x_3.i : Int), .ptr 2 0] [.sl 6 (itsL l) .no, .ptr 0 0, .ptr 1 0, .int .i64 a0, .int .i64 b0, .sl 6 (itsL y.out) (.tok 0), .int .i64 (↑y.i : Int), .ptr 2 0] ∧ StIs { boxes := [some (itC x), some (itC x_3.n), some (itC x_3.z)], live := [((itsL x_3.out).length, (51 : Nat))] } { boxes := [some (itC x), some (itC y.n), some (itC y.z)], live := [((itsL y.out).length, (51 : Nat))] } ∧ (l[y.i]? = some y.y ∧ y.z = nowP x.c a0 y.i y.y ∧ y.n = m.setC (mC x.c a0 b0 (y.i + (1 : Nat))) ∧ y.out = putO m x.c a0 b0 l y.i ++ insP m x.c a0 b0 y.i) ∧ some (AV.int IntKind.i64 (↑x_3.i : Int)) = some (AV.int IntKind.i64 (↑y.i : Int)))) ∧ (decide (a0 < (0 : Int)) = false → ∃ (y : KP), ValsAre [.sl 6 (itsL l) .no, .ptr 0 0, .ptr 1 0, .int .i64 a0, .int .i64 b0, .sl 6 (itsL x_3.out) (.tok 0), .int .i64 (↑x_3.i : Int), .ptr 2 0] [.sl 6 (itsL l) .no, .ptr 0 0, .ptr 1 0, .int .i64 a0, .int .i64 b0, .sl 6 (itsL y.out) (.tok 0), .int .i64 (↑y.i : Int), .ptr 2 0] ∧ StIs { boxes := [some (itC x), some (itC x_3.n), some (itC x_3.z)], live := [((itsL x_3.out).length, (51 : Nat))] } { boxes := [some (itC x), some (itC y.n), some (itC y.z)], live := [((itsL y.out).length, (51 : Nat))] } ∧ (l[y.i]? = some y.y ∧ y.z = nowP x.c a0 y.i y.y ∧ y.n = m.setC (mC x.c a0 b0 (y.i + (1 : Nat))) ∧ y.out = putO m x.c a0 b0 l y.i ++ insP m x.c a0 b0 y.i) ∧ some (AV.int IntKind.i64 (↑x_3.i : Int)) = some (AV.int IntKind.i64 (↑y.i : Int)))) ∧ ∀ (x_4 : KP), l[x_4.i]? = some x_4.y ∧ x_4.z = nowP x.c a0 x_4.i x_4.y ∧
 x_4.n = m.setC (mC x.c a0 b0 (x_4.i + (1 : Nat))) ∧ x_4.out = putO m x.c a0 b0 l x_4.i ++ insP m x.c a0 b0 x_4.i → some (AV.int IntKind.i64 (↑x_3.i : Int)) = some (AV.int IntKind.i64 (↑x_4.i : Int)) → (((↑x_4.i : Int) != a0) = true → ((6 : Nat) = (6 : Nat) ∨ itsL x_4.out = []) ∧ ((itsL x_4.out).length + (1 : Nat)) * (65 : Nat) ≤ (70368744177664 : Nat) ∧ (itsL x_4.out).length = (itsL x_4.out).length ∧ ∃ (y : KP), ValsAre [.sl 6 (itsL l) .no, .ptr 0 0, .ptr 1 0, .int .i64 a0, .int .i64 b0, .sl 6 (itsL x_4.out ++ [.agg (itC x_4.z)]) (.tok 0), .int .i64 (IntKind.i64.wrap ((↑x_4.i : Int) + (1 : Int)))] [.sl 6 (itsL l) .no, .ptr 0 0, .ptr 1 0, .int .i64 a0, .int .i64 b0, .sl 6 (itsL y.out) (.tok 0), .int .i64 (↑y.i : Int)] ∧ StIs { boxes := [some (itC x), some (itC x_4.n)], live := [((itsL x_4.out).length + (1 : Nat), (51 : Nat))] } { boxes := [some (itC x), some (itC y.n)], live := [((itsL y.out).length, (51 : Nat))] } ∧ (y.i ≤ l.length ∧ y.n = m.setC (mC x.c a0 b0 y.i) ∧ y.out = putO m x.c a0 b0 l y.i) ∧ l.length - y.i < l.length - x_2.i) ∧ (((↑x_4.i : Int) != a0) = false → ((x_4.z.c != (0 : Int)) = true → ((6 : Nat) = (6 : Nat) ∨ itsL x_4.out = []) ∧ ((itsL x_4.out).length + (1 : Nat)) * (65 : Nat) ≤ (70368744177664 : Nat) ∧ (itsL x_4.out).length = (itsL x_4.out).length ∧ ∃ (y : KP), ValsAre [.sl 6 (itsL l) .no, .ptr 0 0, .ptr 1 0, .int .i64 a0, .int .i64 b0, .sl 6 (itsL x_4.out ++ [.agg (itC x_4.z)]) (.tok 0), .int .i64 (IntKind.i64.wrap ((↑x_4.i : Int) + (1 : Int)))] [.sl 6 (itsL l) .no, .ptr 0 0,
 .ptr 1 0, .int .i64 a0, .int .i64 b0, .sl 6 (itsL y.out) (.tok 0), .int .i64 (↑y.i : Int)] ∧ StIs { boxes := [some (itC x), some (itC x_4.n)], live := [((itsL x_4.out).length + (1 : Nat), (51 : Nat))] } { boxes := [some (itC x), some (itC y.n)], live := [((itsL y.out).length, (51 : Nat))] } ∧ (y.i ≤ l.length ∧ y.n = m.setC (mC x.c a0 b0 y.i) ∧ y.out = putO m x.c a0 b0 l y.i) ∧ l.length - y.i < l.length - x_2.i) ∧ ((x_4.z.c != (0 : Int)) = false → ∃ (y : KP), ValsAre [.sl 6 (itsL l) .no, .ptr 0 0, .ptr 1 0, .int .i64 a0, .int .i64 b0, .sl 6 (itsL x_4.out) (.tok 0), .int .i64 (IntKind.i64.wrap ((↑x_4.i : Int) + (1 : Int)))] [.sl 6 (itsL l) .no, .ptr 0 0, .ptr 1 0, .int .i64 a0, .int .i64 b0, .sl 6 (itsL y.out) (.tok 0), .int .i64 (↑y.i : Int)] ∧ StIs { boxes := [some (itC x), some (itC x_4.n)], live := [((itsL x_4.out).length, (51 : Nat))] } { boxes := [some (itC x), some (itC y.n)], live := [((itsL y.out).length, (51 : Nat))] } ∧ (y.i ≤ l.length ∧ y.n = m.setC (mC x.c a0 b0 y.i) ∧ y.out = putO m x.c a0 b0 l y.i) ∧ l.length - y.i < l.length - x_2.i))) ∧ (decide ((↑x_2.i : Int) < (↑(itsL l).length : Int)) = false → (decide (a0 < (0 : Int)) = true → ((b0 == (↑(itsL l).length : Int)) = true → ((6 : Nat) = (6 : Nat) ∨ itsL x_2.out = []) ∧ ((itsL x_2.out).length + (1 : Nat)) * (65 : Nat) ≤ (70368744177664 : Nat) ∧ (itsL x_2.out).length = (itsL x_2.out).length ∧ RetLax (AV.sl 6 (itsL x_2.out ++ [.agg [.int .i64 x_2.n.k, .int .i64 x_2.n.n, .str x_2.n.s, .str x_2.n.src, .int .i64 x_2.n.q, .int .i64 x.c]])
 (.tok 0)) (r, [])) ∧ ((b0 == (↑(itsL l).length : Int)) = false → RetLax (AV.sl 6 (itsL x_2.out) (.tok 0)) (r, []))) ∧ (decide (a0 < (0 : Int)) = false → RetLax (AV.sl 6 (itsL x_2.out) (.tok 0)) (r, []))))) := by kernel_rfl
theorem q46z (op : List UInt8) : PureOk PA GA XH7 (tbl []) (itbl []) nAn [] 46 [.str op] (.bool (sumO op), []) := by
 constructor
 rw [z46]
 repeat' first
  | apply And.intro
  | intro _
 all_goals refine retIs_iff.2 ?_
 all_goals simp_all [sumO]
theorem q50z (op : List UInt8) : PureOk PA GA XH7 (tbl []) (itbl []) nAn [] 50 [.str op] (.bool (valO op), []) := by
 constructor
 rw [z50]
 repeat' first
  | apply And.intro
  | intro _
 all_goals refine retIs_iff.2 ?_
 all_goals simp_all [valO]
theorem q51z (op : List UInt8) : PureOk PA GA XH7 (tbl []) (itbl []) nAn [] 51 [.str op] (.bool (ordO op), []) := by
 constructor
 rw [z51]
 repeat' first
  | apply And.intro
  | intro _
 all_goals refine retIs_iff.2 ?_
 all_goals simp_all [ordO]
theorem q23z (op : List UInt8) : PureOk PA GA XH7 (tbl []) (itbl []) nAn [] 23 [.str op] (.bool (famO op).isSome, []) := by
 constructor
 rw [z23]
 repeat' first
  | apply And.intro
  | intro _
 all_goals refine retIs_iff.2 ?_
 all_goals simp_all [famO]
theorem q25z (op : List UInt8) : PureOk PA GA XH7 (tbl [(46, z46s)]) (itbl []) nAn [] 25 [.str op] (.bool (invO op), []) := by
 constructor
 rw [z25]
 refine ⟨fun a => retIs_iff.2 ?_, fun a => ⟨_, callIs_iff.2 rfl, fun b => retIs_iff.2 ?_, fun b => ⟨fun c => retIs_iff.2 ?_, fun c => ⟨fun d => retIs_iff.2 ?_, fun d => retIs_iff.2 ?_⟩⟩⟩⟩
 all_goals simp_all [invO]
theorem inv_eq (op : List UInt8) : invO op = ((famO op).isSome && !(op == bMin) && !(op == bMax) && !(op == bFirst) && !(op == bLast)) := by
 have key : ∀ b ∈ [bCount, bSum, bMean, bDecay, bQuantile, bMin, bMax, bDistinct, bFirst, bLast], invO b = ((famO b).isSome && !(b == bMin) && !(b == bMax) && !(b == bFirst) && !(b == bLast)) := by decide
 by_cases h : op ∈ [bCount, bSum, bMean, bDecay, bQuantile, bMin, bMax, bDistinct, bFirst, bLast]
 ·exact key op h
 ·simp only [List.mem_cons, List.not_mem_nil, or_false, not_or] at h
  obtain ⟨h1, h2, h3, h4, h5, h6, h7, h8, h9, h10⟩ := h
  have e1 : famO op = none := by
   unfold famO
   rw [if_neg h1, if_neg h2, if_neg h3, if_neg h4, if_neg h5, if_neg h6, if_neg h7, if_neg h8, if_neg h9, if_neg h10]
  have e2 : invO op = false := by
   unfold invO sumO
   rw [beq_false_of_ne h1, beq_false_of_ne h2, beq_false_of_ne h3, beq_false_of_ne h4, beq_false_of_ne h8, beq_false_of_ne h5]; rfl
  rw [e1, e2]; rfl
theorem q24z (op : List UInt8) : PureOk PA GA XH7 (tbl [(22, s22)]) (itbl []) nAn [] 24 [.str op] (.bool (invO op), []) := by
 constructor
 rw [z24]
 have e := inv_eq op
 refine ⟨_, callIs_iff.2 rfl, fun k => ⟨fun a => ⟨fun b => ⟨fun c => ⟨fun d => retIs_iff.2 ?_, fun d => retIs_iff.2 ?_⟩, fun c => retIs_iff.2 ?_⟩, fun b => retIs_iff.2 ?_⟩, fun a => retIs_iff.2 ?_⟩, fun k => retIs_iff.2 ?_⟩
 ·rw [e, k, a, b, c, d]; rfl
 ·rw [e, k, a, b, c, d]; rfl
 ·rw [e, k, a, b, c]; rfl
 ·rw [e, k, a, b]; rfl
 ·rw [e, k, a]; rfl
 ·rw [e, k]; rfl
theorem q84z (a b : Int) : PureOk PA GA XH7 (tbl []) (itbl []) nAn [] 84 [.int .i64 a, .int .i64 b] (.int .i64 (Lib.compareInt a b), []) := by
 constructor
 rw [z84]
 unfold Lib.compareInt
 refine ⟨fun c => retIs_iff.2 ?_, fun c => ⟨fun d => retIs_iff.2 ?_, fun d => retIs_iff.2 ?_⟩⟩
 ·rw [if_pos (of_decide_eq_true c)]
 ·rw [if_neg (of_decide_eq_false c), if_pos (of_decide_eq_true d)]
 ·rw [if_neg (of_decide_eq_false c), if_neg (of_decide_eq_false d)]
theorem cb_rng : ∀ a b : List UInt8, Lib.compareBytes a b = -1 ∨ Lib.compareBytes a b = 0 ∨ Lib.compareBytes a b = 1
 | [], [] => by simp [Lib.compareBytes]
 | [], _ :: _ => by simp [Lib.compareBytes]
 | _ :: _, [] => by simp [Lib.compareBytes]
 | x :: a, y :: b => by
  have ih := cb_rng a b
  unfold Lib.compareBytes
  split
  ·simp
  ·split
   ·simp
   ·exact ih
theorem cb_less {a b : List UInt8} (h : Op.bytesLess a b = true) : Lib.compareBytes a b = -1 := by
 have := (bl_iff a b).1 h
 rcases cb_rng a b with e | e | e <;> omega
theorem cb_more {a b : List UInt8} (h : Op.bytesLess a b = false) (hn : a ≠ b) : Lib.compareBytes a b = 1 := by
 have h1 : ¬ Lib.compareBytes a b < 0 := fun hh => by rw [(bl_iff a b).2 hh] at h; cases h
 have h2 : Lib.compareBytes a b ≠ 0 := fun hh => hn ((cb_eq a b).1 hh)
 rcases cb_rng a b with e | e | e <;> omega
theorem ci_eq (a : Int) : Lib.compareInt a a = 0 := by unfold Lib.compareInt; rw [if_neg (by omega), if_neg (by omega)]
theorem ci_ne {a b : Int} (h : a ≠ b) : Lib.compareInt a b ≠ 0 := by
 unfold Lib.compareInt
 split
 ·omega
 ·split <;> omega
theorem q81z (k n k' n' : Int) (s s' : List UInt8) : PureOk PA GA XH7 (tbl [(84, zOrd)]) (itbl []) nAn [] 81 [.agg [.int .i64 k, .int .i64 n, .str s], .agg [.int .i64 k', .int .i64 n', .str s']] (.int .i64 (cmpV k n s k' n' s'), []) := by
 constructor
 rw [z81]
 refine ⟨fun a => ⟨_, callIs_iff.2 rfl, retIs_iff.2 ?_⟩, fun a => ⟨fun b => ⟨_, callIs_iff.2 rfl, retIs_iff.2 ?_⟩, fun b => ⟨fun c => retIs_iff.2 ?_, fun c => ⟨fun d => retIs_iff.2 ?_, fun d => retIs_iff.2 ?_⟩⟩⟩⟩
 ·have a : k ≠ k' := by simpa using a
  unfold cmpV or3; rw [if_neg (ci_ne a)]
 ·have a : k = k' := by simpa using a
  have b : n ≠ n' := by simpa using b
  subst a
  unfold cmpV or3; rw [if_pos (ci_eq k), if_neg (ci_ne b)]
 all_goals
  have a : k = k' := by simpa using a
  have b : n = n' := by simpa using b
  subst a; subst b
  unfold cmpV or3; rw [if_pos (ci_eq k), if_pos (ci_eq n)]
 ·rw [cb_less c]
 ·have d : s ≠ s' := fun e => by subst e; simp at d
  rw [cb_more c d]
 ·have d : s = s' := by
   rw [c] at d; simpa using d
  rw [(cb_eq s s').2 d]
theorem q73z (x y : ItI) : PureOk PA GA XH7 (tbl [(81, zCmpV)]) (itbl []) nAn [] 73 [.agg (itC x), .agg (itC y)] (.int .i64 (cmpI x y), []) := by
 constructor
 rw [z73]
 refine ⟨fun a => ⟨fun c => retIs_iff.2 ?_, fun c => retIs_iff.2 ?_⟩, fun a => ⟨fun b => ⟨fun c => retIs_iff.2 ?_, fun c => retIs_iff.2 ?_⟩, fun b => ⟨_, callIs_iff.2 rfl, retIs_iff.2 ?_⟩⟩⟩
 ·unfold cmpI or3; rw [cb_less c]; rfl
 ·have a : x.src ≠ y.src := by simpa using a
  unfold cmpI or3; rw [cb_more c a]; rfl
 ·have a : x.src = y.src := by simpa using a
  have b : x.q ≠ y.q := by simpa using b
  unfold cmpI or3; rw [if_pos ((cb_eq _ _).2 a), if_neg (ci_ne b)]
  unfold Lib.compareInt; rw [if_pos (of_decide_eq_true c)]
 ·have a : x.src = y.src := by simpa using a
  have b : x.q ≠ y.q := by simpa using b
  have c := of_decide_eq_false c
  unfold cmpI or3; rw [if_pos ((cb_eq _ _).2 a), if_neg (ci_ne b)]
  unfold Lib.compareInt; rw [if_neg c, if_pos (by omega)]
 ·have a : x.src = y.src := by simpa using a
  have b : x.q = y.q := by simpa using b
  unfold cmpI or3; rw [if_pos ((cb_eq _ _).2 a), b, if_pos (ci_eq _)]
theorem q72z (op : List UInt8) (x : ItI) : PureOk PA GA XH7 (tbl [(50, z50s)]) (itbl []) nAn [] 72 [.str op, .agg (itC x)] (itA (markI (!valO op) x), []) := by
 constructor
 rw [z72]
 refine ⟨_, callIs_iff.2 rfl, fun b => retIs_iff.2 ?_, fun b => retIs_iff.2 ?_⟩
 ·rw [b]; rfl
 ·rw [b]; rfl
theorem atP_end {f : Bool} {m : ItI} {l : List ItI} : atP f m l l.length = -1 := by unfold atP; rw [List.drop_length]; rfl
theorem behP_end {f : Bool} {m : ItI} {l : List ItI} : behP f m l l.length = l.length := by unfold behP; rw [List.drop_length]; rfl
theorem atP_step {f : Bool} {m : ItI} {l : List ItI} {p : Nat} (h : p < l.length) : atP f m l p = if markI f l[p] = m then (p : Int) else atP f m l (p + 1) := by
 unfold atP
 rw [← List.getElem_cons_drop h, List.findIdx?_cons]
 by_cases e : markI f l[p] = m
 ·rw [if_pos e, decide_eq_true e]; rfl
 ·rw [if_neg e, decide_eq_false e]
  cases (l.drop (p + 1)).findIdx? (fun y => decide (markI f y = m)) with
  | none => rfl
  | some j => show ((p + (j + 1) : Nat) : Int) = ((p + 1 + j : Nat) : Int); omega
theorem behP_step {f : Bool} {m : ItI} {l : List ItI} {p : Nat} (h : p < l.length) : behP f m l p = if 0 < cmpI (markI f l[p]) m then (p : Int) else behP f m l (p + 1) := by
 unfold behP
 rw [← List.getElem_cons_drop h, List.findIdx?_cons]
 by_cases e : 0 < cmpI (markI f l[p]) m
 ·rw [if_pos e, decide_eq_true e]; rfl
 ·rw [if_neg e, decide_eq_false e]
  cases (l.drop (p + 1)).findIdx? (fun y => decide (0 < cmpI (markI f y) m)) with
  | none => rfl
  | some j => show ((p + (j + 1) : Nat) : Int) = ((p + 1 + j : Nat) : Int); omega
theorem behP_rng {f : Bool} {m : ItI} {l : List ItI} : 0 ≤ behP f m l 0 ∧ behP f m l 0 ≤ l.length := by
 unfold behP
 cases h : (l.drop 0).findIdx? (fun y => decide (0 < cmpI (markI f y) m)) with
 | none => simp
 | some j =>
  obtain ⟨hj, _⟩ := List.findIdx?_eq_some_iff_getElem.1 h
  rw [List.drop_zero] at hj
  show 0 ≤ ((0 + j : Nat) : Int) ∧ ((0 + j : Nat) : Int) ≤ _
  omega
theorem all_of {α : Type} {p : α → Bool} {l : List α} {i : Nat} (hi : i ≤ l.length) (h : ∀ j (hj : j < i), ¬ p (l[j]'(by omega)) = true) : (l.take i).all (fun y => !p y) = true := by
 rw [List.all_eq_true]
 intro y hy
 obtain ⟨j, hj, e⟩ := List.mem_take_iff_getElem.1 hy
 subst e
 have := h j (by omega)
 simpa using this
theorem at_cases (f : Bool) (m : ItI) (l : List ItI) : (atP f m l 0 = -1 ∧ l.all (fun y => !decide (markI f y = m)) = true) ∨ ∃ (i : Nat) (h : i < l.length), atP f m l 0 = i ∧ (l.take i).all (fun y => !decide (markI f y = m)) = true ∧ markI f l[i] = m := by
 unfold atP
 rw [List.drop_zero]
 cases h : l.findIdx? (fun y => decide (markI f y = m)) with
 | none =>
  refine .inl ⟨rfl, ?_⟩
  rw [List.all_eq_true]
  intro y hy
  have := List.findIdx?_eq_none_iff.1 h y hy
  simpa using this
 | some i =>
  obtain ⟨hi, h1, h2⟩ := List.findIdx?_eq_some_iff_getElem.1 h
  refine .inr ⟨i, hi, by show ((0 + i : Nat) : Int) = _; omega, all_of (p := fun y => decide (markI f y = m)) (by omega) h2, of_decide_eq_true h1⟩
theorem beh_cases (f : Bool) (m : ItI) (l : List ItI) : (behP f m l 0 = l.length ∧ l.all (fun y => !decide (0 < cmpI (markI f y) m)) = true) ∨ ∃ (i : Nat) (h : i < l.length), behP f m l 0 = i ∧ (l.take i).all (fun y => !decide (0 < cmpI (markI f y) m)) = true ∧ 0 < cmpI (markI f l[i]) m := by
 unfold behP
 rw [List.drop_zero]
 cases h : l.findIdx? (fun y => decide (0 < cmpI (markI f y) m)) with
 | none =>
  refine .inl ⟨rfl, ?_⟩
  rw [List.all_eq_true]
  intro y hy
  have := List.findIdx?_eq_none_iff.1 h y hy
  simpa using this
 | some i =>
  obtain ⟨hi, h1, h2⟩ := List.findIdx?_eq_some_iff_getElem.1 h
  refine .inr ⟨i, hi, by show ((0 + i : Nat) : Int) = _; omega, all_of (p := fun y => decide (0 < cmpI (markI f y) m)) (by omega) h2, of_decide_eq_true h1⟩
theorem putO_succ {m : ItI} {c a b : Int} {l : List ItI} {i : Nat} {y : ItI} (h : l[i]? = some y) : putO m c a b l (i + 1) = putO m c a b l i ++ (insP m c a b i ++ (if (nowP c a i y).c = 0 ∧ (i : Int) = a then [] else [nowP c a i y])) := by
 show putO m c a b l i ++ _ = _
 rw [h]
theorem take_snoc {l : List ItI} {i : Nat} (h : i < l.length) : l.take (i + 1) = l.take i ++ [l[i]] := List.take_succ_eq_append_getElem h
theorem putO_at {m : ItI} {c : Int} {b : Int} {l : List ItI} {a : Nat} (ha : a < l.length) : ∀ i, i ≤ l.length → putO m c a b l i = if i ≤ a then l.take i else l.take a ++ (if wrap64 (l[a].c + c) = 0 then [] else [l[a].setC (wrap64 (l[a].c + c))]) ++ (l.take i).drop (a + 1)
 | 0, _ => by rw [if_pos (Nat.zero_le _), List.take_zero]; rfl
 | i + 1, hi => by
  have hil : i < l.length := by omega
  have hins : insP m c a b i = [] := by unfold insP; rw [if_neg (by omega)]
  rw [putO_succ (List.getElem?_eq_getElem hil), putO_at ha i (by omega), hins, List.nil_append]
  by_cases h1 : i + 1 ≤ a
  ·have e : nowP c a i l[i] = l[i] := by unfold nowP; rw [if_neg (by omega)]
   rw [if_pos (by omega), if_pos h1, e, if_neg (by omega), take_snoc hil]
  ·rw [if_neg h1]
   by_cases h2 : i = a
   ·subst h2
    have e : nowP c i i l[i] = l[i].setC (wrap64 (l[i].c + c)) := by unfold nowP; rw [if_pos rfl]
    rw [if_pos (Nat.le_refl _), e]
    have e2 : (l[i].setC (wrap64 (l[i].c + c))).c = wrap64 (l[i].c + c) := rfl
    rw [e2, List.drop_of_length_le (by rw [List.length_take]; omega), List.append_nil]
    by_cases hz : wrap64 (l[i].c + c) = 0
    ·rw [if_pos ⟨hz, rfl⟩, if_pos hz]
    ·rw [if_neg (fun h => hz h.1), if_neg hz]
   ·have e : nowP c a i l[i] = l[i] := by unfold nowP; rw [if_neg (by omega)]
    rw [if_neg (show ¬ i ≤ a by omega), e, if_neg (show ¬ (l[i].c = 0 ∧ (i : Int) = (a : Int)) by omega), take_snoc hil, List.drop_append_of_le_length (by rw [List.length_take]; omega)]
    simp only [List.append_assoc]
theorem putO_in {m : ItI} {c a : Int} {l : List ItI} {b : Nat} (ha : a < 0) (hb : b ≤ l.length) : ∀ i, i ≤ l.length → putO m c a b l i = if i ≤ b then l.take i else l.take b ++ [m.setC c] ++ (l.take i).drop b
 | 0, _ => by rw [if_pos (Nat.zero_le _), List.take_zero]; rfl
 | i + 1, hi => by
  have hil : i < l.length := by omega
  have e : nowP c a i l[i] = l[i] := by unfold nowP; rw [if_neg (by omega)]
  rw [putO_succ (List.getElem?_eq_getElem hil), putO_in ha hb i (by omega), e, if_neg (show ¬ (l[i].c = 0 ∧ (i : Int) = a) by omega)]
  by_cases h1 : i + 1 ≤ b
  ·have hins : insP m c a b i = [] := by unfold insP; rw [if_neg (by omega)]
   rw [if_pos (show i ≤ b by omega), if_pos h1, hins, List.nil_append, take_snoc hil]
  ·rw [if_neg h1]
   by_cases h2 : i = b
   ·subst h2
    have hins : insP m c a i i = [m.setC c] := by unfold insP; rw [if_pos ⟨ha, rfl⟩]
    rw [if_pos (Nat.le_refl _), hins, take_snoc hil, List.drop_append_of_le_length (by rw [List.length_take]; omega), List.drop_of_length_le (by rw [List.length_take]; omega), List.nil_append, List.append_assoc]
   ·have hins : insP m c a b i = [] := by unfold insP; rw [if_neg (by omega)]
    rw [if_neg (show ¬ i ≤ b by omega), hins, List.nil_append, take_snoc hil, List.drop_append_of_le_length (by rw [List.length_take]; omega)]
    simp only [List.append_assoc]
theorem set_eq {l : List ItI} {i : Nat} (h : i < l.length) (z : ItI) : l.set i z = l.take i ++ [z] ++ l.drop (i + 1) := by
 rw [List.set_eq_take_append_cons_drop, if_pos h, List.append_assoc]; rfl
theorem put_law (f : Bool) (l : List ItI) (x : ItI) : insI f l x = (if atP f (markI f x) l 0 < 0 ∧ behP f (markI f x) l 0 = l.length then putO (markI f x) x.c (atP f (markI f x) l 0) (behP f (markI f x) l 0) l l.length ++ [(markI f x).setC x.c] else putO (markI f x) x.c (atP f (markI f x) l 0) (behP f (markI f x) l 0) l l.length) := by
 generalize hm : markI f x = m
 rcases at_cases f m l with ⟨e1, e2⟩ | ⟨a, ha, e1, e2, e3⟩
 ·have hI : insI f l x = putI f m x.c l := by unfold insI; rw [hm, addI_none e2]; rfl
  rw [hI, e1]
  rcases beh_cases f m l with ⟨b1, b2⟩ | ⟨b, hb, b1, b2, b3⟩
  ·rw [if_pos ⟨show (-1 : Int) < 0 by omega, b1⟩, putI_none b2, b1, putO_in (show (-1 : Int) < 0 by omega) (Nat.le_refl _) _ (Nat.le_refl _), if_pos (Nat.le_refl _), List.take_length]
  ·rw [if_neg (show ¬ ((-1 : Int) < 0 ∧ behP f m l 0 = l.length) by omega), putI_at hb b2 b3, b1, putO_in (show (-1 : Int) < 0 by omega) (show b ≤ l.length by omega) _ (Nat.le_refl _), if_neg (show ¬ l.length ≤ b by omega), List.take_length]
 ·have hI : insI f l x = if wrap64 (l[a].c + x.c) = 0 then l.take a ++ l.drop (a + 1) else l.set a (l[a].setC (wrap64 (l[a].c + x.c))) := by unfold insI; rw [hm, addI_at ha e2 e3]; rfl
  rw [hI, e1, if_neg (show ¬ ((a : Int) < 0 ∧ behP f m l 0 = l.length) by omega), putO_at ha _ (Nat.le_refl _), if_neg (show ¬ l.length ≤ a by omega), List.take_length]
  by_cases hz : wrap64 (l[a].c + x.c) = 0
  ·rw [if_pos hz, if_pos hz, List.append_nil]
  ·rw [if_neg hz, if_neg hz, set_eq ha]
theorem putO_len {m : ItI} {c a b : Int} {l : List ItI} : ∀ i, (putO m c a b l i).length ≤ 2 * i
 | 0 => Nat.le_refl _
 | i + 1 => by
  have := putO_len (m := m) (c := c) (a := a) (b := b) (l := l) i
  show (putO m c a b l i ++ _).length ≤ _
  rw [List.length_append]
  cases l[i]? with
  | none => simp only [List.length_nil]; omega
  | some y =>
   simp only [List.length_append]
   have h1 : (insP m c a b i).length ≤ 1 := by unfold insP; split <;> simp
   have h2 : (if (nowP c a i y).c = 0 ∧ (i : Int) = a then ([] : List ItI) else [nowP c a i y]).length ≤ 1 := by split <;> simp
   omega
theorem tieI {a b : Int} (h : some (AV.int .i64 a) = some (AV.int .i64 b)) : a = b := by
 injection h with h; injection h with _ h
theorem its_snoc (l : List ItI) (x : ItI) : itsL l ++ [itA x] = itsL (l ++ [x]) := by simp [itsL]
set_option maxHeartbeats 1000000 in
theorem q52z (op : List UInt8) (l : List ItI) (x : ItI) (hl : l.length ≤ 1000000) : LaxOk PA GA XH7 (tbl [(72, zMark), (73, zCmpI)]) (itbl []) (zA52 op (!valO op) l x (markI (!valO op) x) (atP (!valO op) (markI (!valO op) x) l 0) (behP (!valO op) (markI (!valO op) x) l 0)) [] 52 [.str op, .sl 6 (itsL l) .no, .agg (itC x)] (.sl 6 (itsL (insI (!valO op) l x)) .no, []) := by
 constructor
 rw [z52, put_law]
 have hbr := behP_rng (f := !valO op) (m := markI (!valO op) x) (l := l)
 generalize (!valO op) = f at *
 have hmc : (markI f x).c = 0 := by cases f <;> rfl
 generalize hm : markI f x = m at *
 generalize ha0 : atP f m l 0 = a0 at *
 generalize hb0 : behP f m l 0 = b0 at *
 have room : ∀ {i : Nat}, i ≤ l.length → ((itsL (putO m x.c a0 b0 l i)).length + 1) * 65 ≤ 70368744177664 := fun {i} h => by
  have := putO_len (m := m) (c := x.c) (a := a0) (b := b0) (l := l) i
  rw [len_its]; omega
 have room2 : ∀ {i : Nat}, i ≤ l.length → ((itsL (putO m x.c a0 b0 l i ++ insP m x.c a0 b0 i)).length + 1) * 65 ≤ 70368744177664 := fun {i} h => by
  have := putO_len (m := m) (c := x.c) (a := a0) (b := b0) (l := l) i
  have h1 : (insP m x.c a0 b0 i).length ≤ 1 := by unfold insP; split <;> simp
  rw [len_its, List.length_append]; omega
 refine ⟨m.k, m.n, m.s, m.src, m.q, m.c, callIs_iff.2 rfl, ⟨l.length, ⟨?_⟩, ⟨rfl⟩, Nat.le_refl _, trivial⟩, fun p hp => ⟨fun lt => ?_, fun ge => ?_⟩⟩
 ·rw [atP_end, behP_end, len_its, iwN ⟨by omega, by omega⟩]
 ·have lt := of_decide_eq_true lt
  obtain ⟨q, rfl⟩ : ∃ q, p = q + 1 := ⟨p - 1, by omega⟩
  have hq : q < l.length := by omega
  have e1 : ((q + 1 : Nat) : Int) - 1 = q := by omega
  rw [e1]
  refine ⟨⟨⟨by omega, by rw [len_its]; omega⟩, _, _, _, _, _, _, by rw [Int.toNat_natCast]; exact take_it hq, _, _, _, _, _, _, callIs_iff.2 rfl, fun e => ⟨q, ⟨?_⟩, ⟨rfl⟩, hq, by rw [e1]⟩, fun e => ⟨q, ⟨?_⟩, ⟨rfl⟩, hq, by rw [e1]⟩⟩, fun q2 hq2 t2 => ?_⟩
  ·have e := (it_eq (markI f l[q]) m).symm.trans e
   rw [atP_step hq, if_pos (of_decide_eq_true e)]
  ·have e := (it_eq (markI f l[q]) m).symm.trans e
   rw [atP_step hq, if_neg (of_decide_eq_false e)]
  ·obtain rfl : q = q2 := by have := tieI t2; omega
   refine ⟨⟨by omega, by rw [len_its]; omega⟩, _, _, _, _, _, _, by rw [Int.toNat_natCast]; exact take_it hq, _, _, _, _, _, _, callIs_iff.2 rfl, _, callIs_iff.2 rfl, fun c => ⟨q, ⟨?_⟩, ⟨rfl⟩, by omega, by omega⟩, fun c => ⟨q, ⟨?_⟩, ⟨rfl⟩, by omega, by omega⟩⟩
   ·have c : 0 < cmpI (markI f l[q]) m := of_decide_eq_true c
    rw [behP_step hq, if_pos c, iwN ⟨by omega, by omega⟩]
   ·have c : ¬ 0 < cmpI (markI f l[q]) m := of_decide_eq_false c
    rw [behP_step hq, if_neg c, iwN ⟨by omega, by omega⟩]
 ·have ge := of_decide_eq_false ge
  obtain rfl : p = 0 := by omega
  have hmC : m.setC (mC x.c a0 b0 0) = m := by
   unfold mC; rw [if_neg (by omega), ← hmc]; rfl
  refine ⟨⟨⟨0, x, x, m, []⟩, ⟨by rw [ha0, hb0]; rfl⟩, ⟨rfl⟩, ⟨Nat.zero_le _, hmC.symm, rfl⟩, trivial⟩, fun p hp => ⟨fun lt => ?_, fun ge => ?_⟩⟩
  ·obtain ⟨i, y0, z0, n0, out⟩ := p
   dsimp only at hp lt ⊢
   obtain ⟨h1, h2, h3⟩ := hp
   have lt := of_decide_eq_true lt
   rw [len_its] at lt
   have hil : i < l.length := by omega
   have hy : l[i]? = some l[i] := List.getElem?_eq_getElem hil
   refine ⟨⟨by omega, by rw [len_its]; omega⟩, _, _, _, _, _, _, by rw [Int.toNat_natCast]; exact take_it hil, ⟨fun e => ⟨⟨i, l[i], l[i].setC (wrap64 (l[i].c + x.c)), n0, out⟩, ⟨rfl⟩, ⟨by rw [iw]; rfl⟩, ⟨hy, ?_, h2, h3⟩, rfl⟩, fun e => ⟨⟨i, l[i], l[i], n0, out⟩, ⟨rfl⟩, ⟨rfl⟩, ⟨hy, ?_, h2, h3⟩, rfl⟩⟩, fun p3 hp3 t3 => ?_⟩
   ·show _ = nowP x.c a0 i l[i]
    unfold nowP; rw [if_pos (eq_of_beq e)]
   ·show _ = nowP x.c a0 i l[i]
    unfold nowP; rw [if_neg (ne_of_beq_false e)]
   ·obtain ⟨i3, y3, z3, n3, out3⟩ := p3
    dsimp only at hp3 t3 ⊢
    obtain rfl : i = i3 := by have := tieI t3; omega
    obtain ⟨g1, g2, g3, g4⟩ := hp3
    obtain rfl : y3 = l[i] := by rw [hy] at g1; injection g1 with g1; exact g1.symm
    refine ⟨⟨fun c => ⟨fun d => ⟨.inl rfl, by rw [g4]; exact room h1, rfl, ⟨i, l[i], z3, n3.setC x.c, out3 ++ [n3.setC x.c]⟩, ⟨by dsimp only; rw [← its_snoc]; rfl⟩, ⟨by dsimp only; rw [← its_snoc, List.length_append]; rfl⟩, ⟨hy, g2, ?_, ?_⟩, rfl⟩, fun d => ⟨⟨i, l[i], z3, n3, out3⟩, ⟨rfl⟩, ⟨rfl⟩, ⟨hy, g2, ?_, ?_⟩, rfl⟩⟩, fun c => ⟨⟨i, l[i], z3, n3, out3⟩, ⟨rfl⟩, ⟨rfl⟩, ⟨hy, g2, ?_, ?_⟩, rfl⟩⟩, fun p4 hp4 t4 => ?_⟩
    ·have c := of_decide_eq_true c
     have d := eq_of_beq d
     show n3.setC x.c = m.setC (mC x.c a0 b0 (i + 1))
     unfold mC; rw [if_pos ⟨c, by omega⟩, g3]; rfl
    ·have c := of_decide_eq_true c
     have d := eq_of_beq d
     show out3 ++ [n3.setC x.c] = putO m x.c a0 b0 l i ++ insP m x.c a0 b0 i
     unfold insP; rw [if_pos ⟨c, d⟩, g4, g3]; rfl
    ·have d := ne_of_beq_false d
     show n3 = m.setC (mC x.c a0 b0 (i + 1))
     rw [g3]
     unfold mC
     by_cases hh : a0 < 0 ∧ b0 < (i : Int)
     ·rw [if_pos hh, if_pos ⟨hh.1, by omega⟩]
     ·rw [if_neg hh, if_neg (by omega)]
    ·have d := ne_of_beq_false d
     show out3 = putO m x.c a0 b0 l i ++ insP m x.c a0 b0 i
     unfold insP; rw [if_neg (fun hh => d hh.2), List.append_nil, g4]
    ·have c := of_decide_eq_false c
     show n3 = m.setC (mC x.c a0 b0 (i + 1))
     rw [g3]
     unfold mC
     rw [if_neg (fun hh => c hh.1), if_neg (fun hh => c hh.1)]
    ·have c := of_decide_eq_false c
     show out3 = putO m x.c a0 b0 l i ++ insP m x.c a0 b0 i
     unfold insP; rw [if_neg (fun hh => c hh.1), List.append_nil, g4]
    ·obtain ⟨i4, y4, z4, n4, out4⟩ := p4
     dsimp only at hp4 t4 ⊢
     obtain rfl : i = i4 := by have := tieI t4; omega
     obtain ⟨k1, k2, k3, k4⟩ := hp4
     obtain rfl : y4 = l[i] := by rw [hy] at k1; injection k1 with k1; exact k1.symm
     have wi : IntKind.i64.wrap ((i : Int) + 1) = ((i + 1 : Nat) : Int) := by rw [iwN ⟨by omega, by omega⟩]; omega
     rw [wi]
     have hsucc := putO_succ (m := m) (c := x.c) (a := a0) (b := b0) hy
     rw [← k2, ← List.append_assoc, ← k4] at hsucc
     have yes : ¬ (z4.c = 0 ∧ (i : Int) = a0) → ∃ (y : KP), ValsAre [AV.sl 6 (itsL l) .no, AV.ptr 0 0, AV.ptr 1 0, AV.int .i64 a0, AV.int .i64 b0, AV.sl 6 (itsL out4 ++ [AV.agg (itC z4)]) (.tok 0), AV.int .i64 ((i + 1 : Nat) : Int)] [AV.sl 6 (itsL l) .no, AV.ptr 0 0, AV.ptr 1 0, AV.int .i64 a0, AV.int .i64 b0, AV.sl 6 (itsL y.out) (.tok 0), AV.int .i64 (y.i : Int)] ∧ StIs ⟨[some (itC x), some (itC n4)], [((itsL out4).length + 1, 51)]⟩ ⟨[some (itC x), some (itC y.n)], [((itsL y.out).length, 51)]⟩ ∧ (y.i ≤ l.length ∧ y.n = m.setC (mC x.c a0 b0 y.i) ∧ y.out = putO m x.c a0 b0 l y.i) ∧ l.length - y.i < l.length - i := fun hh =>
      ⟨⟨i + 1, l[i], z4, n4, out4 ++ [z4]⟩, ⟨by dsimp only; rw [← its_snoc]; rfl⟩, ⟨by dsimp only; rw [← its_snoc, List.length_append]; rfl⟩, ⟨hil, k3, by dsimp only; rw [hsucc, if_neg hh]⟩, by show l.length - (i + 1) < _; omega⟩
     have rm : ((itsL out4).length + 1) * 65 ≤ 70368744177664 := by rw [k4]; exact room2 h1
     refine ⟨fun c => ⟨.inl rfl, rm, rfl, yes ?_⟩, fun c => ⟨fun d => ⟨.inl rfl, rm, rfl, yes ?_⟩, fun d => ⟨⟨i + 1, l[i], z4, n4, out4⟩, ⟨rfl⟩, ⟨rfl⟩, ⟨hil, k3, ?_⟩, by show l.length - (i + 1) < _; omega⟩⟩⟩
     ·have c : (i : Int) ≠ a0 := by simpa using c
      exact fun hh => c hh.2
     ·have d : z4.c ≠ 0 := by simpa using d
      exact fun hh => d hh.1
     ·have c : (i : Int) = a0 := by simpa using c
      have d : z4.c = 0 := by simpa using d
      show out4 = putO m x.c a0 b0 l (i + 1)
      rw [hsucc, if_pos ⟨d, c⟩, List.append_nil]
  ·obtain ⟨i, y0, z0, n0, out⟩ := p
   dsimp only at hp ge ⊢
   obtain ⟨h1, h2, h3⟩ := hp
   have ge := of_decide_eq_false ge
   rw [len_its] at ge
   obtain rfl : i = l.length := by omega
   have hn : n0.setC x.c = m.setC x.c := by rw [h2]; rfl
   refine ⟨fun c => ⟨fun d => ⟨.inl rfl, by rw [h3]; exact room h1, rfl, ⟨?_, ?_, .inl rfl⟩, rfl, rfl⟩, fun d => ⟨⟨rfl, ?_, .inl rfl⟩, rfl, rfl⟩⟩, fun c => ⟨⟨rfl, ?_, .inl rfl⟩, rfl, rfl⟩⟩
   ·rfl
   ·have c := of_decide_eq_true c
    have d := eq_of_beq d
    rw [len_its] at d
    rw [if_pos ⟨c, d⟩, ← its_snoc, ← hn, h3]; rfl
   ·have d := ne_of_beq_false d
    rw [len_its] at d
    rw [if_neg (fun hh => d hh.2), h3]
   ·have c := of_decide_eq_false c
    rw [if_neg (fun hh => c hh.1), h3]
theorem j46 : SpecOk PA GA 46 z46s := spec_of (X := XH7) (m := []) mixedA tbl_nil itbl_nil fun args r h => by
 unfold z46s zB at h
 split at h
 case h_2 => cases h
 injection h with h; subst h
 exact ⟨_, q46z _⟩
theorem j50 : SpecOk PA GA 50 z50s := spec_of (X := XH7) (m := []) mixedA tbl_nil itbl_nil fun args r h => by
 unfold z50s zB at h
 split at h
 case h_2 => cases h
 injection h with h; subst h
 exact ⟨_, q50z _⟩
theorem j51 : SpecOk PA GA 51 z51s := spec_of (X := XH7) (m := []) mixedA tbl_nil itbl_nil fun args r h => by
 unfold z51s zB at h
 split at h
 case h_2 => cases h
 injection h with h; subst h
 exact ⟨_, q51z _⟩
theorem j23 : SpecOk PA GA 23 z23s := spec_of (X := XH7) (m := []) mixedA tbl_nil itbl_nil fun args r h => by
 unfold z23s zB at h
 split at h
 case h_2 => cases h
 injection h with h; subst h
 exact ⟨_, q23z _⟩
theorem j25 : SpecOk PA GA 25 z25s := spec_of (X := XH7) (m := []) mixedA (tbl_cons j46 tbl_nil) itbl_nil fun args r h => by
 unfold z25s zB at h
 split at h
 case h_2 => cases h
 injection h with h; subst h
 exact ⟨_, q25z _⟩
theorem j24 : SpecOk PA GA 24 z24s := spec_of (X := XH7) (m := []) mixedA (tbl_cons o22 tbl_nil) itbl_nil fun args r h => by
 unfold z24s zB at h
 split at h
 case h_2 => cases h
 injection h with h; subst h
 exact ⟨_, q24z _⟩
theorem j84 : SpecOk PA GA 84 zOrd := spec_of (X := XH7) (m := []) mixedA tbl_nil itbl_nil fun args r h => by
 unfold zOrd at h
 split at h
 case h_2 => cases h
 injection h with h; subst h
 exact ⟨_, q84z _ _⟩
theorem j81 : SpecOk PA GA 81 zCmpV := spec_of (X := XH7) (m := []) mixedA (tbl_cons j84 tbl_nil) itbl_nil fun args r h => by
 unfold zCmpV s105 at h
 split at h
 case h_2 => cases h
 injection h with h; subst h
 exact ⟨_, q81z _ _ _ _ _ _⟩
theorem j73 : SpecOk PA GA 73 zCmpI := spec_of (X := XH7) (m := []) mixedA (tbl_cons j81 tbl_nil) itbl_nil fun args r h => by
 unfold zCmpI s111 at h
 split at h
 case h_2 => cases h
 rename_i k n s src q c k' n' s' src' q' c'
 injection h with h; subst h
 exact ⟨_, q73z ⟨k, n, s, src, q, c⟩ ⟨k', n', s', src', q', c'⟩⟩
theorem j72 : SpecOk PA GA 72 zMark := spec_of (X := XH7) (m := []) mixedA (tbl_cons j50 tbl_nil) itbl_nil fun args r h => by
 unfold zMark at h
 split at h
 case h_2 => cases h
 rename_i op k n s src q c
 injection h with h; subst h
 exact ⟨_, q72z op ⟨k, n, s, src, q, c⟩⟩
theorem wkA_its {sz : Nat} {l : List ItI} {o : Own} (h : sz = 6 ∨ l = []) : wkA 6 (.sl sz (l.map itA) o) = .sl 6 (itsL l) .no := by
 cases l with
 | nil => rfl
 | cons x l =>
  obtain rfl : sz = 6 := h.resolve_right (by simp)
  rfl
theorem j52 : SpecOk PA GA 52 zPut := lax_ofW (X := XH7) (m := []) [0, 6] mixedA (tbl_cons j72 (tbl_cons j73 tbl_nil)) itbl_nil fun args r h => by
 unfold zPut at h
 split at h
 case h_2 => cases h
 rename_i op sz es o k n s src q c
 split at h
 case h_2 => cases h
 rename_i l hl
 split at h
 case isFalse => cases h
 rename_i hc
 injection h with h; subst h
 obtain rfl := unL_inv unI_inv hl
 simp only [wkL]
 rw [wkA_its hc.1]
 exact ⟨_, q52z op l ⟨k, n, s, src, q, c⟩ hc.2⟩
theorem y21 (l : List ItI) (r : AV) : (pureW PA GA XU (tbl []) (itbl []) (a21 l) [] 21 [.sl 6 (itsL l) .no] (r, [])) =
((∃ (y : Nat), ValsAre [.sl 6 (itsL l) .no, .int .i64 0] [.sl 6 (itsL l) .no, .int .i64 (↑y : Int)] ∧ StIs { boxes := [], live := [] } { boxes := [], live := [] } ∧ (y ≤ l.length ∧ (List.take y l).all smI = true) ∧ True) ∧ ∀ (x : Nat), x ≤ l.length ∧ (List.take x l).all smI = true → (decide ((↑x : Int) < (↑(itsL l).length : Int)) = true → ((0 : Int) ≤ (↑x : Int) ∧ (↑x : Int) < (↑(itsL l).length : Int)) ∧ ∃ (s : List UInt8), takeAt PA 9 (itsL l) (↑x : Int).toNat 2 = some (AV.str s) ∧ (decide ((↑s.length : Int) > (100 : Int)) = true → RetIs (AV.bool false) [] (r, [])) ∧ (decide ((↑s.length : Int) > (100 : Int)) = false → ((0 : Int) ≤ (↑x : Int) ∧ (↑x : Int) < (↑(itsL l).length : Int)) ∧ ∃ (s : List UInt8), takeAt PA 9 (itsL l) (↑x : Int).toNat 3 = some (AV.str s) ∧ (decide ((↑s.length : Int) > (100 : Int)) = true → RetIs (AV.bool false) [] (r, [])) ∧ (decide ((↑s.length : Int) > (100 : Int)) = false → ∃ (y : Nat), ValsAre [.sl 6 (itsL l) .no, .int .i64 (IntKind.i64.wrap ((↑x : Int) + (1 : Int)))] [.sl 6 (itsL l) .no, .int .i64 (↑y : Int)] ∧ StIs { boxes := [], live := [] } { boxes := [], live := [] } ∧ (y ≤ l.length ∧ (List.take y l).all smI = true) ∧ l.length - y < l.length - x))) ∧ (decide ((↑x : Int) < (↑(itsL l).length : Int)) = false → (decide ((↑(itsL l).length : Int) ≤ (40 : Int)) = true → RetIs (AV.bool true) [] (r, [])) ∧ (decide ((↑(itsL l).length : Int) ≤ (40 : Int)) = false → RetIs (AV.bool false) [] (r, [])))) := by kernel_rfl
theorem wrapB {i : Nat} (h : i + 1 ≤ 9223372036854775807) : IntKind.i64.wrap ((i : Int) + 1) = ((i + 1 : Nat) : Int) := by
 rw [iwN ⟨by omega, by omega⟩]; omega
theorem agg9 : aggA PA 9 = some false := by kernel_rfl
theorem size9 : sizeA PA 9 = some 1 := by kernel_rfl
theorem take_is {l : List ItI} {i : Nat} (h : i < l.length) : takeAt PA 9 (itsL l) i 2 = some (.str l[i].s) := by
 unfold takeAt
 rw [its_at h]
 simp only [agg9, size9, takeA]
 rfl
theorem take_ir {l : List ItI} {i : Nat} (h : i < l.length) : takeAt PA 9 (itsL l) i 3 = some (.str l[i].src) := by
 unfold takeAt
 rw [its_at h]
 simp only [agg9, size9, takeA]
 rfl
theorem all_not {α : Type} {p : α → Bool} {l : List α} {i : Nat} (h : i < l.length) (hp : p l[i] = false) : l.all p = false := all_no (List.getElem_mem h) hp
theorem all_succ {α : Type} {p : α → Bool} {l : List α} {i : Nat} (h : i < l.length) (h1 : (l.take i).all p = true) (hp : p l[i] = true) : (l.take (i + 1)).all p = true := by
 rw [List.take_succ_eq_append_getElem h, List.all_append, h1]; simp [hp]
theorem q21 (l : List ItI) (hl : l.length ≤ maxLen) : PureOk PA GA XU (tbl []) (itbl []) (a21 l) [] 21 [.sl 6 (itsL l) .no] (.bool (smallP l), []) := by
 constructor
 rw [y21]
 unfold maxLen at hl
 refine ⟨⟨0, ⟨rfl⟩, ⟨rfl⟩, ⟨Nat.zero_le _, by rw [List.take_zero]; rfl⟩, trivial⟩, fun i hi => ⟨fun lt => ?_, fun ge => ⟨fun c => ?_, fun c => ?_⟩⟩⟩
 ·have lt := of_decide_eq_true lt
  rw [len_its] at lt
  have hil : i < l.length := by omega
  have no : smI l[i] = false → RetIs (AV.bool false) [] (AV.bool (smallP l), []) := fun h => retIs_iff.2 (by unfold smallP; rw [all_not hil h]; rfl)
  refine ⟨⟨by omega, by rw [len_its]; omega⟩, _, by rw [Int.toNat_natCast]; exact take_is hil, fun c => no ?_, fun c => ⟨⟨by omega, by rw [len_its]; omega⟩, _, by rw [Int.toNat_natCast]; exact take_ir hil, fun d => no ?_, fun d => ⟨i + 1, ⟨by rw [wrapB (by omega)]⟩, ⟨rfl⟩, ⟨hil, all_succ hil hi.2 ?_⟩, by omega⟩⟩⟩
  ·have c := of_decide_eq_true c
   unfold smI; rw [decide_eq_false (by omega)]; rfl
  ·have d := of_decide_eq_true d
   unfold smI; rw [decide_eq_false (show ¬ l[i].src.length ≤ 100 by omega), Bool.and_false]
  ·have c := of_decide_eq_false c
   have d := of_decide_eq_false d
   unfold smI; rw [decide_eq_true (by omega), decide_eq_true (by omega)]; rfl
 ·have ge := of_decide_eq_false ge
  have c := of_decide_eq_true c
  rw [len_its] at ge c
  have h2 := hi.2
  rw [List.take_of_length_le (by omega)] at h2
  refine retIs_iff.2 ?_
  unfold smallP; rw [h2, decide_eq_true (by omega)]; rfl
 ·have c := of_decide_eq_false c
  rw [len_its] at c
  refine retIs_iff.2 ?_
  unfold smallP; rw [decide_eq_false (by omega), Bool.and_false]
theorem wk_its {sz : Nat} {l : List ItI} {o : Own} (h : sz = 6 ∨ l = []) : wkSt (.sl sz (l.map itA) o) = .sl 6 (itsL l) .no := by
 cases l with
 | nil => rfl
 | cons x l =>
  obtain rfl : sz = 6 := h.resolve_right (by simp)
  rfl
theorem j21 : SpecOk PA GA 21 v21 := spec_wkS fun args r h => by
 unfold v21 at h
 split at h
 case h_2 => cases h
 split at h
 case h_2 => cases h
 rename_i l hl
 split at h
 case isFalse => cases h
 rename_i hc
 injection h with h; subst h
 obtain rfl := unL_inv unI_inv hl
 rw [List.map_cons, List.map_nil, wk_its hc.1]
 exact one_pure mixedA tbl_nil itbl_nil (q21 l hc.2)
def smallS (s : StI) : Bool := s.its.all smI && decide (s.its.length ≤ 60) && decide (s.bks.length ≤ 60)
def v19 : Spec := fun args => match args with
 | [st] => match unSt st with
  | some s => if s.its.length ≤ maxLen ∧ s.bks.length ≤ maxLen then some (.bool (smallS s), []) else none
  | none => none
 | _ => none
def v20 : Spec := fun args => match args with
 | [st] => match unSt st with
  | some s => if s.bks.length ≤ maxLen ∧ WfB s.bks then some (.bool (decide (Asc s.bks)), []) else none
  | none => none
 | _ => none
def stR (s : StI) : Prop := stOk s ∧ Asc s.bks ∧ s.its.length ≤ 1000 ∧ s.bks.length ≤ 1000
instance (s : StI) : Decidable (stR s) := inferInstanceAs (Decidable (_ ∧ _))
def v30 : Spec := fun args => match args with
 | [.str op, st, it] => match unSt st, unI it with
  | some s, some x => if itOk x ∧ stR s then some (stA (addP op s x), []) else none
  | _, _ => none
 | _ => none
def v32 : Spec := fun args => match args with
 | [.str op, st, st2] => match unSt st, unSt st2 with
  | some a, some b => if stR a ∧ stR b then some (stA (mergeP op a b), []) else none
  | _, _ => none
 | _ => none
def v28 : Spec := zEmpty
def a19 (s : StI) : Anns := ⟨fun k => if k = 2 then some { α := Nat, slots := [1, 3], nb := 1, vals := fun i => [.ptr 0 0, .int .i64 i], sS := fun _ => ⟨[some (stC s)], []⟩, I := fun i => i ≤ s.its.length ∧ (s.its.take i).all smI = true, μ := fun i => s.its.length - i } else none, nA⟩
def a20 (s : StI) : Anns := ⟨fun k => if k = 2 then some { α := Nat, slots := [1, 3], nb := 1, vals := fun i => [.ptr 0 0, .int .i64 i], sS := fun _ => ⟨[some (stC s)], []⟩, I := fun i => i ≤ s.bks.length ∧ Asc (s.bks.take i), μ := fun i => s.bks.length - i } else none, nA⟩
def XS (s v o : Bool) : Shapes := fun f => match f with
 | 46 => some (.val (.one (.is (.bool s))), none)
 | 50 => some (.val (.one (.is (.bool v))), none)
 | 51 => some (.val (.one (.is (.bool o))), none)
 | 49 => some (.val (.one (.sl 2 .no)), none)
 | f => XH7 f
def RA : Callee := tbl [(23, z23s), (46, z46s), (48, zMul), (47, zAdd), (49, zAddB), (50, z50s), (51, z51s), (52, zPut)]
def RJ : Callee := tbl [(23, z23s), (46, z46s), (47, zAdd), (53, zMrg), (50, z50s), (51, z51s), (52, zPut)]
structure KI where
 i : Nat
 l : List ItI
abbrev bksC (n : Int) (B : Bks) : List AV := [.int .i64 n, .int .i64 0, .int .u64 0, .sl 0 [] .nil, .sl 2 (bksL B) .no]
abbrev itsC (n : Int) (L : List ItI) : List AV := [.int .i64 n, .int .i64 0, .int .u64 0, .sl 6 (itsL L) .no, .sl 0 [] .nil]
abbrev pp5 (op : List UInt8) : List AV := [.str op, .ptr 0 0, .ptr 1 0, .ptr 2 0, .ptr 3 0]
def cutS (op : List UInt8) (c1 c2 c3 : List AV) : Ann := { α := Unit, slots := [0, 4, 5, 6, 7], nb := 4, vals := fun _ => [.str op, .ptr 0 0, .ptr 1 0, .ptr 2 0, .ptr 3 0], sS := fun _ => ⟨[some c1, some c2, some (nilC 0 0 0), some c3], []⟩, I := fun _ => True, μ := fun _ => 0 }
def a30 (op : List UInt8) (s : StI) (x : ItI) (c6 c8 c10 : List AV) : Anns := ⟨fun k => match k with
 | 1000006 => some (cutS op (stC s) (itC x) c6)
 | 1000008 => some (cutS op (stC s) (itC x) c8)
 | 1000010 => some (cutS op (stC s) (itC x) c10)
 | _ => none, nA⟩
def a32 (v : Bool) (op : List UInt8) (a b : StI) (c6 c8 : List AV) (c10 c17 : Option (List AV)) : Anns := ⟨fun k => match k with
 | 1000006 => some (cutS op (stC a) (stC b) c6)
 | 1000008 => some (cutS op (stC a) (stC b) c8)
 | 1000010 => c10.map fun c => cutS op (stC a) (stC b) c
 | 1000017 => c17.map fun c => cutS op (stC a) (stC b) c
 | 13 => if v = false then none else some { α := KI, slots := [0, 4, 5, 6, 7, 8], nb := 4, vals := fun p => [.str op, .ptr 0 0, .ptr 1 0, .ptr 2 0, .ptr 3 0, .int .i64 p.i], sS := fun p => ⟨[some (stC a), some (stC b), some (nilC 0 0 0), some (itsC (wrap64 (a.n + b.n)) p.l)], []⟩, I := fun p => p.i ≤ b.its.length ∧ p.l = insAll a.its (b.its.take p.i), μ := fun p => b.its.length - p.i }
 | _ => none, nA⟩
def u5 : Spec := fun args => match args with
 | [.str _op, st, st2, it] => match unSt st, unSt st2, unI it with
  | some a, some b, some x => if (a.its.length ≤ maxLen ∧ a.bks.length ≤ maxLen ∧ wOk a.h a.l ∧ WfB a.bks) ∧ (b.its.length ≤ maxLen ∧ b.bks.length ≤ maxLen ∧ wOk b.h b.l ∧ WfB b.bks) ∧ itOk x then some (.bool true, []) else none
  | _, _, _ => none
 | _ => none
def b5 (op : List UInt8) (a b : StI) (x : ItI) : Anns := ⟨fun k => match k with
 | 1000007 => some { α := Unit, slots := [0, 5, 6, 7], nb := 3, vals := fun _ => [.str op, .ptr 0 0, .ptr 1 0, .ptr 2 0], sS := fun _ => ⟨[some (stC a), some (stC b), some (itC x)], []⟩, I := fun _ => True, μ := fun _ => 0 }
 | _ => none, nA⟩
def RS : Callee := tbl [(7, s7), (19, v19), (20, v20), (21, v21), (22, s22), (23, z23s), (24, z24s), (25, z25s), (27, s16), (28, v28), (26, s13), (29, s14), (30, v30), (31, s15), (32, v32)]
def XL : Shapes := fun f => match f with
 | 7 => some (.val (.one (.is (.bool true))), none)
 | 19 | 20 | 21 | 22 | 23 | 24 | 25 | 26 => some shB
 | 27 | 28 | 29 | 30 | 31 | 32 => some shSt
 | f => XH7 f
end Go.Abs
