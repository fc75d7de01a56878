/- strings.Builder: WriteString and String, of a builder that the call has made. -/
import Derived.Test.YtmhjocbnoppbbaaDoorJoin
import Derived.Shelf.Strings.BuilderK
namespace Go.Proofs
open Go.Shelf Go.RowKit
theorem Tryd.write_k (B b : Nat) (bs : List Value) (s : ByteArray) (w : World) (h : Lib.IsBuilderF 74 5 B b bs w) (hlen : bs.length + s.size ≤ 140737488355328) (hBw : B ≤ w.heap.size) :
    Calls Tryd.prog 40 #[.pointer (some ⟨b, 0, none⟩), .string s] w fun e w' => e = .returned (.tuple #[.int .i64 s.size, .nilIface]) ∧
      (Lib.BuilderAtF 74 5 B b (.pointer (some ⟨b, 0, none⟩)) (bs ++ Lib.strCells s) w' ∧ Below B w w' ∧ Lib.OthersKept 5 (some b) w w') :=
  Any.Builder_WriteString_k { Tryd.lays156 with } Tryd.Builder_Extra_156 B b bs s w h hlen hBw
theorem Tryd.string_k (B b : Nat) (l : List UInt8) (w : World) (h : Lib.IsBuilderF 74 5 B b (Lib.byteCells l) w) (hBw : B ≤ w.heap.size) :
    Calls Tryd.prog 41 #[.pointer (some ⟨b, 0, none⟩)] w fun e w' => e = .returned (.string ⟨l.toArray⟩) ∧ (Lib.IsBuilderF 74 5 B b (Lib.byteCells l) w' ∧ Below B w w' ∧ Lib.OthersKept 5 (some b) w w') :=
  Any.Builder_String_any_k { Tryd.lays156 with } Tryd.Builder_Extra_156 B b l w h hBw
end Go.Proofs
