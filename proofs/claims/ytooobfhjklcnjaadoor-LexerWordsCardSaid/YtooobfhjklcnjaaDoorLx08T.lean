/- the tokens of the sources in the examples -/
import Derived.Test.YtooobfhjklcnjaaDoorLx08B
namespace Go.Abs
open Go.Proofs
def e12_0 : AV × List (Nat × TypeId) := (AV.tup
      [AV.sl 3
          [AV.agg [AV.int IntKind.i64 1, AV.str [UInt8.ofNat (↑(UInt8.toNat 97) : Int).toNat], AV.int IntKind.i64 0],
            AV.agg [AV.int IntKind.i64 5, AV.str [UInt8.ofNat (↑(UInt8.toNat 60) : Int).toNat, UInt8.ofNat (↑(UInt8.toNat 61) : Int).toNat], AV.int IntKind.i64 1],
            AV.agg
              [AV.int IntKind.i64 3, AV.str [UInt8.ofNat (↑(UInt8.toNat 49) : Int).toNat, UInt8.ofNat (↑(UInt8.toNat 46) : Int).toNat, UInt8.ofNat (↑(UInt8.toNat 53) : Int).toNat],
                AV.int IntKind.i64 3],
            AV.agg [AV.int IntKind.i64 6, AV.str [], AV.int IntKind.i64 13]]
          (Own.tok 0),
        AV.sl 0 [] Own.nil, AV.int IntKind.i64 0],
    [([AV.agg [AV.int IntKind.i64 1, AV.str [UInt8.ofNat (↑(UInt8.toNat 97) : Int).toNat], AV.int IntKind.i64 0],
              AV.agg [AV.int IntKind.i64 5, AV.str [UInt8.ofNat (↑(UInt8.toNat 60) : Int).toNat, UInt8.ofNat (↑(UInt8.toNat 61) : Int).toNat], AV.int IntKind.i64 1],
              AV.agg
                [AV.int IntKind.i64 3, AV.str [UInt8.ofNat (↑(UInt8.toNat 49) : Int).toNat, UInt8.ofNat (↑(UInt8.toNat 46) : Int).toNat, UInt8.ofNat (↑(UInt8.toNat 53) : Int).toNat],
                  AV.int IntKind.i64 3]].length +
          [AV.agg [AV.int IntKind.i64 6, AV.str [], AV.int IntKind.i64 13]].length,
        38)])
set_option maxRecDepth 100000 in
theorem r12_0 (m : Int) : (evs PP (G8 m) (tbl lib8b) (fun _ => []) 200).1 12 [bytesA [97, 60, 61, 49, 46, 53, 32, 35, 32, 110, 111, 116, 101]] = some e12_0 := by kernel_rfl
def e12_1 : AV × List (Nat × TypeId) := (AV.tup
      [AV.sl 3
          [AV.agg [AV.int IntKind.i64 1, AV.str [UInt8.ofNat (↑(UInt8.toNat 120) : Int).toNat], AV.int IntKind.i64 0],
            AV.agg [AV.int IntKind.i64 5, AV.str [UInt8.ofNat (↑(UInt8.toNat 61) : Int).toNat, UInt8.ofNat (↑(UInt8.toNat 61) : Int).toNat], AV.int IntKind.i64 1],
            AV.agg [AV.int IntKind.i64 5, AV.str [UInt8.ofNat (↑(UInt8.toNat 45) : Int).toNat], AV.int IntKind.i64 3],
            AV.agg [AV.int IntKind.i64 2, AV.str [UInt8.ofNat (↑(UInt8.toNat 49) : Int).toNat], AV.int IntKind.i64 4],
            AV.agg [AV.int IntKind.i64 5, AV.str [UInt8.ofNat (↑(UInt8.toNat 59) : Int).toNat], AV.int IntKind.i64 5], AV.agg [AV.int IntKind.i64 6, AV.str [], AV.int IntKind.i64 6]]
          (Own.tok 0),
        AV.sl 0 [] Own.nil, AV.int IntKind.i64 0],
    [([AV.agg [AV.int IntKind.i64 1, AV.str [UInt8.ofNat (↑(UInt8.toNat 120) : Int).toNat], AV.int IntKind.i64 0],
              AV.agg [AV.int IntKind.i64 5, AV.str [UInt8.ofNat (↑(UInt8.toNat 61) : Int).toNat, UInt8.ofNat (↑(UInt8.toNat 61) : Int).toNat], AV.int IntKind.i64 1],
              AV.agg [AV.int IntKind.i64 5, AV.str [UInt8.ofNat (↑(UInt8.toNat 45) : Int).toNat], AV.int IntKind.i64 3],
              AV.agg [AV.int IntKind.i64 2, AV.str [UInt8.ofNat (↑(UInt8.toNat 49) : Int).toNat], AV.int IntKind.i64 4],
              AV.agg [AV.int IntKind.i64 5, AV.str [UInt8.ofNat (↑(UInt8.toNat 59) : Int).toNat], AV.int IntKind.i64 5]].length +
          [AV.agg [AV.int IntKind.i64 6, AV.str [], AV.int IntKind.i64 6]].length,
        38)])
set_option maxRecDepth 100000 in
theorem r12_1 (m : Int) : (evs PP (G8 m) (tbl lib8b) (fun _ => []) 200).1 12 [bytesA [120, 61, 61, 45, 49, 59]] = some e12_1 := by kernel_rfl
def e12_2 : AV × List (Nat × TypeId) := (AV.tup
      [AV.sl 3
          [AV.agg [AV.int IntKind.i64 2, AV.str [UInt8.ofNat (↑(UInt8.toNat 49) : Int).toNat, UInt8.ofNat (↑(UInt8.toNat 50) : Int).toNat], AV.int IntKind.i64 0],
            AV.agg [AV.int IntKind.i64 1, AV.str [UInt8.ofNat (↑(UInt8.toNat 97) : Int).toNat, UInt8.ofNat (↑(UInt8.toNat 98) : Int).toNat], AV.int IntKind.i64 2],
            AV.agg [AV.int IntKind.i64 2, AV.str [UInt8.ofNat (↑(UInt8.toNat 49) : Int).toNat], AV.int IntKind.i64 5], AV.agg [AV.int IntKind.i64 6, AV.str [], AV.int IntKind.i64 7]]
          (Own.tok 0),
        AV.sl 2 [AV.agg [AV.int IntKind.i64 6, AV.int IntKind.i64 80]] Own.no, AV.int IntKind.i64 0],
    [([AV.agg [AV.int IntKind.i64 2, AV.str [UInt8.ofNat (↑(UInt8.toNat 49) : Int).toNat, UInt8.ofNat (↑(UInt8.toNat 50) : Int).toNat], AV.int IntKind.i64 0],
              AV.agg [AV.int IntKind.i64 1, AV.str [UInt8.ofNat (↑(UInt8.toNat 97) : Int).toNat, UInt8.ofNat (↑(UInt8.toNat 98) : Int).toNat], AV.int IntKind.i64 2],
              AV.agg [AV.int IntKind.i64 2, AV.str [UInt8.ofNat (↑(UInt8.toNat 49) : Int).toNat], AV.int IntKind.i64 5]].length +
          [AV.agg [AV.int IntKind.i64 6, AV.str [], AV.int IntKind.i64 7]].length,
        38)])
set_option maxRecDepth 100000 in
theorem r12_2 (m : Int) : (evs PP (G8 m) (tbl lib8b) (fun _ => []) 200).1 12 [bytesA [49, 50, 97, 98, 32, 49, 46]] = some e12_2 := by kernel_rfl
def e12_3 : AV × List (Nat × TypeId) := (AV.tup
      [AV.sl 3
          [AV.agg [AV.int IntKind.i64 1, AV.str [UInt8.ofNat (↑(UInt8.toNat 97) : Int).toNat], AV.int IntKind.i64 0],
            AV.agg [AV.int IntKind.i64 1, AV.str [UInt8.ofNat (↑(UInt8.toNat 98) : Int).toNat], AV.int IntKind.i64 5], AV.agg [AV.int IntKind.i64 6, AV.str [], AV.int IntKind.i64 8]]
          (Own.tok 0),
        AV.sl 2 [AV.agg [AV.int IntKind.i64 2, AV.int IntKind.i64 80], AV.agg [AV.int IntKind.i64 7, AV.int IntKind.i64 80]] Own.no, AV.int IntKind.i64 0],
    [([AV.agg [AV.int IntKind.i64 1, AV.str [UInt8.ofNat (↑(UInt8.toNat 97) : Int).toNat], AV.int IntKind.i64 0],
              AV.agg [AV.int IntKind.i64 1, AV.str [UInt8.ofNat (↑(UInt8.toNat 98) : Int).toNat], AV.int IntKind.i64 5]].length +
          [AV.agg [AV.int IntKind.i64 6, AV.str [], AV.int IntKind.i64 8]].length,
        38)])
set_option maxRecDepth 100000 in
theorem r12_3 (m : Int) : (evs PP (G8 m) (tbl lib8b) (fun _ => []) 200).1 12 [bytesA [97, 32, 36, 36, 32, 98, 32, 36]] = some e12_3 := by kernel_rfl
def e12_4 : AV × List (Nat × TypeId) := (AV.tup
      [AV.sl 3
          [AV.agg
              [AV.int IntKind.i64 4, AV.str [UInt8.ofNat (↑(UInt8.toNat 97) : Int).toNat, UInt8.ofNat (↑(UInt8.toNat 32) : Int).toNat, UInt8.ofNat (↑(UInt8.toNat 98) : Int).toNat],
                AV.int IntKind.i64 0],
            AV.agg [AV.int IntKind.i64 1, AV.str [UInt8.ofNat (↑(UInt8.toNat 99) : Int).toNat], AV.int IntKind.i64 7], AV.agg [AV.int IntKind.i64 6, AV.str [], AV.int IntKind.i64 8]]
          (Own.tok 0),
        AV.sl 2 [AV.agg [AV.int IntKind.i64 6, AV.int IntKind.i64 80]] Own.no, AV.int IntKind.i64 0],
    [([AV.agg
                [AV.int IntKind.i64 4, AV.str [UInt8.ofNat (↑(UInt8.toNat 97) : Int).toNat, UInt8.ofNat (↑(UInt8.toNat 32) : Int).toNat, UInt8.ofNat (↑(UInt8.toNat 98) : Int).toNat],
                  AV.int IntKind.i64 0],
              AV.agg [AV.int IntKind.i64 1, AV.str [UInt8.ofNat (↑(UInt8.toNat 99) : Int).toNat], AV.int IntKind.i64 7]].length +
          [AV.agg [AV.int IntKind.i64 6, AV.str [], AV.int IntKind.i64 8]].length,
        38)])
set_option maxRecDepth 100000 in
theorem r12_4 (m : Int) : (evs PP (G8 m) (tbl lib8b) (fun _ => []) 200).1 12 [bytesA [34, 97, 32, 98, 34, 32, 34, 99]] = some e12_4 := by kernel_rfl
def e12_5 : AV × List (Nat × TypeId) := (AV.tup [AV.sl 3 [AV.agg [AV.int IntKind.i64 6, AV.str [], AV.int IntKind.i64 9]] (Own.tok 0), AV.sl 2 [AV.agg [AV.int IntKind.i64 0, AV.int IntKind.i64 3]] Own.no, AV.int IntKind.i64 0],
    [(0 + [AV.agg [AV.int IntKind.i64 6, AV.str [], AV.int IntKind.i64 9]].length, 38)])
set_option maxRecDepth 100000 in
theorem r12_5 (m : Int) : (evs PP (G8 m) (tbl lib8b) (fun _ => []) 200).1 12 [bytesA [48, 46, 49, 50, 51, 52, 53, 54, 55]] = some e12_5 := by kernel_rfl
def e12_6 : AV × List (Nat × TypeId) := (AV.tup
      [AV.sl 3 [AV.agg [AV.int IntKind.i64 1, AV.str [UInt8.ofNat (↑(UInt8.toNat 97) : Int).toNat], AV.int IntKind.i64 0], AV.agg [AV.int IntKind.i64 6, AV.str [], AV.int IntKind.i64 1]] (Own.tok 0),
        AV.sl 0 [] Own.nil, AV.int IntKind.i64 0],
    [([AV.agg [AV.int IntKind.i64 1, AV.str [UInt8.ofNat (↑(UInt8.toNat 97) : Int).toNat], AV.int IntKind.i64 0]].length + [AV.agg [AV.int IntKind.i64 6, AV.str [], AV.int IntKind.i64 1]].length,
        38)])
set_option maxRecDepth 100000 in
theorem r12_6 (m : Int) : (evs PP (G8 m) (tbl lib8b) (fun _ => []) 200).1 12 [bytesA [97]] = some e12_6 := by kernel_rfl
def e12_7 : AV × List (Nat × TypeId) := (AV.tup
      [AV.sl 3
          [AV.agg
              [AV.int IntKind.i64 4, AV.str [UInt8.ofNat (↑(UInt8.toNat 98) : Int).toNat, UInt8.ofNat (↑(UInt8.toNat 32) : Int).toNat, UInt8.ofNat (↑(UInt8.toNat 99) : Int).toNat],
                AV.int IntKind.i64 0],
            AV.agg [AV.int IntKind.i64 6, AV.str [], AV.int IntKind.i64 5]]
          (Own.tok 0),
        AV.sl 0 [] Own.nil, AV.int IntKind.i64 0],
    [([AV.agg
                [AV.int IntKind.i64 4, AV.str [UInt8.ofNat (↑(UInt8.toNat 98) : Int).toNat, UInt8.ofNat (↑(UInt8.toNat 32) : Int).toNat, UInt8.ofNat (↑(UInt8.toNat 99) : Int).toNat],
                  AV.int IntKind.i64 0]].length +
          [AV.agg [AV.int IntKind.i64 6, AV.str [], AV.int IntKind.i64 5]].length,
        38)])
set_option maxRecDepth 100000 in
theorem r12_7 (m : Int) : (evs PP (G8 m) (tbl lib8b) (fun _ => []) 200).1 12 [bytesA [34, 98, 32, 99, 34]] = some e12_7 := by kernel_rfl
def e12_8 : AV × List (Nat × TypeId) := (AV.tup [AV.sl 3 [AV.agg [AV.int IntKind.i64 6, AV.str [], AV.int IntKind.i64 1]] (Own.tok 0), AV.sl 2 [AV.agg [AV.int IntKind.i64 0, AV.int IntKind.i64 80]] Own.no, AV.int IntKind.i64 0],
    [(0 + [AV.agg [AV.int IntKind.i64 6, AV.str [], AV.int IntKind.i64 1]].length, 38)])
set_option maxRecDepth 100000 in
theorem r12_8 (m : Int) : (evs PP (G8 m) (tbl lib8b) (fun _ => []) 200).1 12 [bytesA [65]] = some e12_8 := by kernel_rfl
def tab12 : List (List UInt8 × (AV × List (Nat × TypeId))) := [([97, 60, 61, 49, 46, 53, 32, 35, 32, 110, 111, 116, 101], e12_0), ([120, 61, 61, 45, 49, 59], e12_1), ([49, 50, 97, 98, 32, 49, 46], e12_2), ([97, 32, 36, 36, 32, 98, 32, 36], e12_3), ([34, 97, 32, 98, 34, 32, 34, 99], e12_4), ([48, 46, 49, 50, 51, 52, 53, 54, 55], e12_5), ([97], e12_6), ([34, 98, 32, 99, 34], e12_7), ([65], e12_8)]
theorem run12 (m : Int) : ∀ p ∈ tab12, (evs PP (G8 m) (tbl lib8b) (fun _ => []) 200).1 12 [bytesA p.1] = some p.2 := by
  simp only [tab12, List.forall_mem_cons]
  exact ⟨r12_0 m, r12_1 m, r12_2 m, r12_3 m, r12_4 m, r12_5 m, r12_6 m, r12_7 m, r12_8 m, fun p h => absurd h (by simp)⟩
end Go.Abs
