/- What the drawing functions leave: gaps, places, changes. -/
import Derived.Test.YtlndlgbpnlfflaaD3
import Derived.Test.YtlndlgbpnlfflaaD4
import Derived.Test.YtlndlgbpnlfflaaPb
namespace Go.Proofs.Ytlndlgbpnlfflaa
open Go.RowKit

/-- What a function that draws a gap leaves. -/
def DGapV (w : World) (e : Ending) (w' : World) : Prop := ∃ a b : ByteArray, e = .returned (.agg #[.string a, .string b]) ∧ a.size + b.size ≤ 130 ∧ Below w.heap.size w w'
/-- What a function that draws a text and a place leaves. -/
def DSpotV (w : World) (e : Ending) (w' : World) : Prop := ∃ (s : ByteArray) (p : Int), e = .returned (.tuple #[.string s, .int .i64 p]) ∧ s.size ≤ 125 ∧ Below w.heap.size w w'
end Go.Proofs.Ytlndlgbpnlfflaa
