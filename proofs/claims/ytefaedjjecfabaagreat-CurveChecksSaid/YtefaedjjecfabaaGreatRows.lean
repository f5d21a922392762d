/-
  No cell of these rows narrows 'for every input' (looked for: loops, veiled, ifaces, maps, wideKeys, modest, calm, conditions, laid).
  DERIVED. THE GIVEN ROWS OF THIS SEAT. 25 by the template 'for every input the law returns true; each argument reads behind the call as it read before'; 0 by the template 'total and deterministic' (their statements: YtefaedjjecfabaaGreatTotals.lean).
  GIVEN WITH THE SEED: the statements are not yours to turn. If you find one false, say at which input.
  Laid BY PROGRAM, IN A SANDBOX (cutbox-rows.mjs): the forced cells as the released guide's own fill.sh prints them over the translation 1e664a4c38605407… (all of the seat's roots in one cut). By AI agents, Wed Nov 11 2026. No macro, syntax, notation, axiom, sorry.
-/
import Derived.Test.YtefaedjjecfabaaGreatChecked
import GoSem.Claim
import GoSem.ClaimJoined
import GoSem.ClaimMapViews
import Derived.JoinedTies
import Derived.KernelRfl
namespace Go.Proofs.YtefaedjjecfabaaGreat
/- THE CELL 'sum', in the pinned program and in every row, IS THE sha256 OF THE DUMP (.gsa) THAT YtefaedjjecfabaaGreatProg.lean LOADS. Nothing in Lean hashes anything: it is a label: what it is worth is what the hold of that sum in a sandbox is worth. -/
noncomputable def Tryz.pinned : Pinned := { name := "ytefaedjjecfabaagreat", sum := "1e664a4c3860540758ab85ce6c3ca9ccc654e38596e6bee258a74275593226d5", checked := Tryz.checked }
namespace Rows
def none {H : Type} : Left H := { results := [], args := [] }

/-- 'tenorlaw11.CurveSingles': WHATEVER THE INPUT: true; the input reads as it did. -/
def curveSinglesSpec : ChangeSpec := { name := "curveSingles", fn := fun _ => fun
  | [d] => { results := [.lit (.bool true)], args := [d] }
  | _ => none }
def curveSinglesRow : OpenClaim := { program := "ytefaedjjecfabaagreat", sum := "1e664a4c3860540758ab85ce6c3ca9ccc654e38596e6bee258a74275593226d5", func := "tenor/tenorlaw11.CurveSingles", spec := "curveSingles", inPlace := ["math.Float64bits", "math/bits.Sub64", "math/bits.Add64", "math.Float64frombits", "math.archFloor", "math.archTrunc"], unfollowed := true, recurses := true, named := ["math/bits.divideError", "math/bits.overflowError"], plainKeys := false, apart := false }
def CurveSinglesSaid : Prop := curveSinglesRow.holds Tryz.pinned (OpenSpec.ofChange curveSinglesSpec)

/-- ITS FALSE NEIGHBOUR: 'it returns false'. Refute it at one input. -/
def curveSinglesWrong : ChangeSpec := { name := "curveSingles", fn := fun _ => fun
  | [d] => { results := [.lit (.bool false)], args := [d] }
  | _ => none }
def CurveSinglesWrongFalsely : Prop := curveSinglesRow.holds Tryz.pinned (OpenSpec.ofChange curveSinglesWrong)

/-- 'tenorlaw11.CurveHalf': WHATEVER THE INPUT: true; the input reads as it did. -/
def curveHalfSpec : ChangeSpec := { name := "curveHalf", fn := fun _ => fun
  | [d] => { results := [.lit (.bool true)], args := [d] }
  | _ => none }
def curveHalfRow : OpenClaim := { program := "ytefaedjjecfabaagreat", sum := "1e664a4c3860540758ab85ce6c3ca9ccc654e38596e6bee258a74275593226d5", func := "tenor/tenorlaw11.CurveHalf", spec := "curveHalf", inPlace := ["math.Float64bits", "math/bits.Sub64", "math/bits.Add64", "math.Float64frombits", "math.archFloor", "math.archTrunc"], unfollowed := true, recurses := true, named := ["math/bits.divideError", "math/bits.overflowError"], plainKeys := false, apart := false }
def CurveHalfSaid : Prop := curveHalfRow.holds Tryz.pinned (OpenSpec.ofChange curveHalfSpec)

/-- ITS FALSE NEIGHBOUR: 'it returns false'. Refute it at one input. -/
def curveHalfWrong : ChangeSpec := { name := "curveHalf", fn := fun _ => fun
  | [d] => { results := [.lit (.bool false)], args := [d] }
  | _ => none }
def CurveHalfWrongFalsely : Prop := curveHalfRow.holds Tryz.pinned (OpenSpec.ofChange curveHalfWrong)

/-- 'tenorlaw11.CurveLent': WHATEVER THE INPUT: true; the input reads as it did. -/
def curveLentSpec : ChangeSpec := { name := "curveLent", fn := fun _ => fun
  | [d1, d2] => { results := [.lit (.bool true)], args := [d1, d2] }
  | _ => none }
def curveLentRow : OpenClaim := { program := "ytefaedjjecfabaagreat", sum := "1e664a4c3860540758ab85ce6c3ca9ccc654e38596e6bee258a74275593226d5", func := "tenor/tenorlaw11.CurveLent", spec := "curveLent", inPlace := ["math.Float64bits", "math/bits.Sub64", "math/bits.Add64", "math.Float64frombits", "math.archFloor", "math.archTrunc"], unfollowed := true, recurses := true, named := ["math/bits.divideError", "math/bits.overflowError"], plainKeys := false, apart := false }
def CurveLentSaid : Prop := curveLentRow.holds Tryz.pinned (OpenSpec.ofChange curveLentSpec)

/-- ITS FALSE NEIGHBOUR: 'it returns false'. Refute it at one input. -/
def curveLentWrong : ChangeSpec := { name := "curveLent", fn := fun _ => fun
  | [d1, d2] => { results := [.lit (.bool false)], args := [d1, d2] }
  | _ => none }
def CurveLentWrongFalsely : Prop := curveLentRow.holds Tryz.pinned (OpenSpec.ofChange curveLentWrong)

/-- 'tenorlaw11.CurveRates': WHATEVER THE INPUT: true; the input reads as it did. -/
def curveRatesSpec : ChangeSpec := { name := "curveRates", fn := fun _ => fun
  | [d1, d2, d3, d4, d5, d6] => { results := [.lit (.bool true)], args := [d1, d2, d3, d4, d5, d6] }
  | _ => none }
def curveRatesRow : OpenClaim := { program := "ytefaedjjecfabaagreat", sum := "1e664a4c3860540758ab85ce6c3ca9ccc654e38596e6bee258a74275593226d5", func := "tenor/tenorlaw11.CurveRates", spec := "curveRates", inPlace := ["math.Float64bits", "math/bits.Sub64", "math/bits.Add64", "math.Float64frombits", "math.archFloor", "math.archTrunc"], unfollowed := true, recurses := true, named := ["math/bits.divideError", "math/bits.overflowError"], plainKeys := false, apart := false }
def CurveRatesSaid : Prop := curveRatesRow.holds Tryz.pinned (OpenSpec.ofChange curveRatesSpec)

/-- ITS FALSE NEIGHBOUR: 'it returns false'. Refute it at one input. -/
def curveRatesWrong : ChangeSpec := { name := "curveRates", fn := fun _ => fun
  | [d1, d2, d3, d4, d5, d6] => { results := [.lit (.bool false)], args := [d1, d2, d3, d4, d5, d6] }
  | _ => none }
def CurveRatesWrongFalsely : Prop := curveRatesRow.holds Tryz.pinned (OpenSpec.ofChange curveRatesWrong)

/-- 'tenorlaw11.CurveChecks': WHATEVER THE INPUT: true; the input reads as it did. -/
def curveChecksSpec : ChangeSpec := { name := "curveChecks", fn := fun _ => fun
  | [d1, d2] => { results := [.lit (.bool true)], args := [d1, d2] }
  | _ => none }
def curveChecksRow : OpenClaim := { program := "ytefaedjjecfabaagreat", sum := "1e664a4c3860540758ab85ce6c3ca9ccc654e38596e6bee258a74275593226d5", func := "tenor/tenorlaw11.CurveChecks", spec := "curveChecks", inPlace := ["math.Float64bits", "math/bits.Sub64", "math/bits.Add64", "math.Float64frombits", "math.archFloor", "math.archTrunc"], unfollowed := true, recurses := true, named := ["math/bits.divideError", "math/bits.overflowError"], plainKeys := false, apart := false }
def CurveChecksSaid : Prop := curveChecksRow.holds Tryz.pinned (OpenSpec.ofChange curveChecksSpec)

/-- ITS FALSE NEIGHBOUR: 'it returns false'. Refute it at one input. -/
def curveChecksWrong : ChangeSpec := { name := "curveChecks", fn := fun _ => fun
  | [d1, d2] => { results := [.lit (.bool false)], args := [d1, d2] }
  | _ => none }
def CurveChecksWrongFalsely : Prop := curveChecksRow.holds Tryz.pinned (OpenSpec.ofChange curveChecksWrong)

/-- 'tenorlaw15.PriceNets': WHATEVER THE INPUT: true; the input reads as it did. -/
def priceNetsSpec : ChangeSpec := { name := "priceNets", fn := fun _ => fun
  | [d1, d2, d3] => { results := [.lit (.bool true)], args := [d1, d2, d3] }
  | _ => none }
def priceNetsRow : OpenClaim := { program := "ytefaedjjecfabaagreat", sum := "1e664a4c3860540758ab85ce6c3ca9ccc654e38596e6bee258a74275593226d5", func := "tenor/tenorlaw15.PriceNets", spec := "priceNets", inPlace := ["math.Float64bits", "math/bits.Sub64", "math/bits.Add64", "math.Float64frombits", "math.archFloor", "math.archTrunc"], unfollowed := true, recurses := true, named := ["math/bits.divideError", "math/bits.overflowError"], plainKeys := false, apart := false }
def PriceNetsSaid : Prop := priceNetsRow.holds Tryz.pinned (OpenSpec.ofChange priceNetsSpec)

/-- ITS FALSE NEIGHBOUR: 'it returns false'. Refute it at one input. -/
def priceNetsWrong : ChangeSpec := { name := "priceNets", fn := fun _ => fun
  | [d1, d2, d3] => { results := [.lit (.bool false)], args := [d1, d2, d3] }
  | _ => none }
def PriceNetsWrongFalsely : Prop := priceNetsRow.holds Tryz.pinned (OpenSpec.ofChange priceNetsWrong)

/-- 'tenorlaw13.BootFirst': WHATEVER THE INPUT: true; the input reads as it did. -/
def bootFirstSpec : ChangeSpec := { name := "bootFirst", fn := fun _ => fun
  | [d1, d2, d3, d4, d5] => { results := [.lit (.bool true)], args := [d1, d2, d3, d4, d5] }
  | _ => none }
def bootFirstRow : OpenClaim := { program := "ytefaedjjecfabaagreat", sum := "1e664a4c3860540758ab85ce6c3ca9ccc654e38596e6bee258a74275593226d5", func := "tenor/tenorlaw13.BootFirst", spec := "bootFirst", inPlace := ["math.Float64bits", "math/bits.Sub64", "math/bits.Add64", "math.Float64frombits", "math.archFloor", "math.archTrunc"], unfollowed := true, recurses := true, named := ["math/bits.divideError", "math/bits.overflowError"], plainKeys := false, apart := false }
def BootFirstSaid : Prop := bootFirstRow.holds Tryz.pinned (OpenSpec.ofChange bootFirstSpec)

/-- ITS FALSE NEIGHBOUR: 'it returns false'. Refute it at one input. -/
def bootFirstWrong : ChangeSpec := { name := "bootFirst", fn := fun _ => fun
  | [d1, d2, d3, d4, d5] => { results := [.lit (.bool false)], args := [d1, d2, d3, d4, d5] }
  | _ => none }
def BootFirstWrongFalsely : Prop := bootFirstRow.holds Tryz.pinned (OpenSpec.ofChange bootFirstWrong)

/-- 'tenorlaw13.BootChecks': WHATEVER THE INPUT: true; the input reads as it did. -/
def bootChecksSpec : ChangeSpec := { name := "bootChecks", fn := fun _ => fun
  | [d1, d2, d3, d4] => { results := [.lit (.bool true)], args := [d1, d2, d3, d4] }
  | _ => none }
def bootChecksRow : OpenClaim := { program := "ytefaedjjecfabaagreat", sum := "1e664a4c3860540758ab85ce6c3ca9ccc654e38596e6bee258a74275593226d5", func := "tenor/tenorlaw13.BootChecks", spec := "bootChecks", inPlace := ["math.Float64bits", "math/bits.Sub64", "math/bits.Add64", "math.Float64frombits", "math.archFloor", "math.archTrunc", "math.Float32bits"], unfollowed := true, recurses := true, named := ["math/bits.divideError", "math/bits.overflowError"], plainKeys := false, apart := false }
def BootChecksSaid : Prop := bootChecksRow.holds Tryz.pinned (OpenSpec.ofChange bootChecksSpec)

/-- ITS FALSE NEIGHBOUR: 'it returns false'. Refute it at one input. -/
def bootChecksWrong : ChangeSpec := { name := "bootChecks", fn := fun _ => fun
  | [d1, d2, d3, d4] => { results := [.lit (.bool false)], args := [d1, d2, d3, d4] }
  | _ => none }
def BootChecksWrongFalsely : Prop := bootChecksRow.holds Tryz.pinned (OpenSpec.ofChange bootChecksWrong)

/-- 'tenorlaw13.BootWorths': WHATEVER THE INPUT: true; the input reads as it did. -/
def bootWorthsSpec : ChangeSpec := { name := "bootWorths", fn := fun _ => fun
  | [d1, d2, d3] => { results := [.lit (.bool true)], args := [d1, d2, d3] }
  | _ => none }
def bootWorthsRow : OpenClaim := { program := "ytefaedjjecfabaagreat", sum := "1e664a4c3860540758ab85ce6c3ca9ccc654e38596e6bee258a74275593226d5", func := "tenor/tenorlaw13.BootWorths", spec := "bootWorths", inPlace := ["math.Float64bits", "math/bits.Sub64", "math/bits.Add64", "math.Float64frombits", "math.archFloor", "math.archTrunc", "math.Float32bits"], unfollowed := true, recurses := true, named := ["math/bits.divideError", "math/bits.overflowError"], plainKeys := false, apart := false }
def BootWorthsSaid : Prop := bootWorthsRow.holds Tryz.pinned (OpenSpec.ofChange bootWorthsSpec)

/-- ITS FALSE NEIGHBOUR: 'it returns false'. Refute it at one input. -/
def bootWorthsWrong : ChangeSpec := { name := "bootWorths", fn := fun _ => fun
  | [d1, d2, d3] => { results := [.lit (.bool false)], args := [d1, d2, d3] }
  | _ => none }
def BootWorthsWrongFalsely : Prop := bootWorthsRow.holds Tryz.pinned (OpenSpec.ofChange bootWorthsWrong)

/-- 'tenorlaw13.BootBuilds': WHATEVER THE INPUT: true; the input reads as it did. -/
def bootBuildsSpec : ChangeSpec := { name := "bootBuilds", fn := fun _ => fun
  | [d1, d2, d3, d4] => { results := [.lit (.bool true)], args := [d1, d2, d3, d4] }
  | _ => none }
def bootBuildsRow : OpenClaim := { program := "ytefaedjjecfabaagreat", sum := "1e664a4c3860540758ab85ce6c3ca9ccc654e38596e6bee258a74275593226d5", func := "tenor/tenorlaw13.BootBuilds", spec := "bootBuilds", inPlace := ["math.Float64bits", "math/bits.Sub64", "math/bits.Add64", "math.Float64frombits", "math.archFloor", "math.archTrunc", "math.Float32bits"], unfollowed := true, recurses := true, named := ["math/bits.divideError", "math/bits.overflowError"], plainKeys := false, apart := false }
def BootBuildsSaid : Prop := bootBuildsRow.holds Tryz.pinned (OpenSpec.ofChange bootBuildsSpec)

/-- ITS FALSE NEIGHBOUR: 'it returns false'. Refute it at one input. -/
def bootBuildsWrong : ChangeSpec := { name := "bootBuilds", fn := fun _ => fun
  | [d1, d2, d3, d4] => { results := [.lit (.bool false)], args := [d1, d2, d3, d4] }
  | _ => none }
def BootBuildsWrongFalsely : Prop := bootBuildsRow.holds Tryz.pinned (OpenSpec.ofChange bootBuildsWrong)

/-- 'tenorlaw13.BootLent': WHATEVER THE INPUT: true; the input reads as it did. -/
def bootLentSpec : ChangeSpec := { name := "bootLent", fn := fun _ => fun
  | [d1, d2, d3, d4] => { results := [.lit (.bool true)], args := [d1, d2, d3, d4] }
  | _ => none }
def bootLentRow : OpenClaim := { program := "ytefaedjjecfabaagreat", sum := "1e664a4c3860540758ab85ce6c3ca9ccc654e38596e6bee258a74275593226d5", func := "tenor/tenorlaw13.BootLent", spec := "bootLent", inPlace := ["math.Float64bits", "math/bits.Sub64", "math/bits.Add64", "math.Float64frombits", "math.archFloor", "math.archTrunc", "math.Float32bits"], unfollowed := true, recurses := true, named := ["math/bits.divideError", "math/bits.overflowError"], plainKeys := false, apart := false }
def BootLentSaid : Prop := bootLentRow.holds Tryz.pinned (OpenSpec.ofChange bootLentSpec)

/-- ITS FALSE NEIGHBOUR: 'it returns false'. Refute it at one input. -/
def bootLentWrong : ChangeSpec := { name := "bootLent", fn := fun _ => fun
  | [d1, d2, d3, d4] => { results := [.lit (.bool false)], args := [d1, d2, d3, d4] }
  | _ => none }
def BootLentWrongFalsely : Prop := bootLentRow.holds Tryz.pinned (OpenSpec.ofChange bootLentWrong)

/-- 'tenorlaw14.FlowFixed': WHATEVER THE INPUT: true; the input reads as it did. -/
def flowFixedSpec : ChangeSpec := { name := "flowFixed", fn := fun _ => fun
  | [d] => { results := [.lit (.bool true)], args := [d] }
  | _ => none }
def flowFixedRow : OpenClaim := { program := "ytefaedjjecfabaagreat", sum := "1e664a4c3860540758ab85ce6c3ca9ccc654e38596e6bee258a74275593226d5", func := "tenor/tenorlaw14.FlowFixed", spec := "flowFixed", inPlace := ["math.Float64bits", "math/bits.Sub64", "math/bits.Add64", "math.Float64frombits"], unfollowed := true, recurses := true, named := ["math/bits.divideError", "math/bits.overflowError"], plainKeys := false, apart := false }
def FlowFixedSaid : Prop := flowFixedRow.holds Tryz.pinned (OpenSpec.ofChange flowFixedSpec)

/-- ITS FALSE NEIGHBOUR: 'it returns false'. Refute it at one input. -/
def flowFixedWrong : ChangeSpec := { name := "flowFixed", fn := fun _ => fun
  | [d] => { results := [.lit (.bool false)], args := [d] }
  | _ => none }
def FlowFixedWrongFalsely : Prop := flowFixedRow.holds Tryz.pinned (OpenSpec.ofChange flowFixedWrong)

/-- 'tenorlaw15.PricePars': WHATEVER THE INPUT: true; the input reads as it did. -/
def priceParsSpec : ChangeSpec := { name := "pricePars", fn := fun _ => fun
  | [d1, d2] => { results := [.lit (.bool true)], args := [d1, d2] }
  | _ => none }
def priceParsRow : OpenClaim := { program := "ytefaedjjecfabaagreat", sum := "1e664a4c3860540758ab85ce6c3ca9ccc654e38596e6bee258a74275593226d5", func := "tenor/tenorlaw15.PricePars", spec := "pricePars", inPlace := ["math.Float64bits", "math/bits.Sub64", "math/bits.Add64", "math.Float64frombits", "math.archFloor", "math.archTrunc"], unfollowed := true, recurses := true, named := ["math/bits.divideError", "math/bits.overflowError"], plainKeys := false, apart := false }
def PriceParsSaid : Prop := priceParsRow.holds Tryz.pinned (OpenSpec.ofChange priceParsSpec)

/-- ITS FALSE NEIGHBOUR: 'it returns false'. Refute it at one input. -/
def priceParsWrong : ChangeSpec := { name := "pricePars", fn := fun _ => fun
  | [d1, d2] => { results := [.lit (.bool false)], args := [d1, d2] }
  | _ => none }
def PriceParsWrongFalsely : Prop := priceParsRow.holds Tryz.pinned (OpenSpec.ofChange priceParsWrong)

/-- 'tenorlaw13.BootMeets': WHATEVER THE INPUT: true; the input reads as it did. -/
def bootMeetsSpec : ChangeSpec := { name := "bootMeets", fn := fun _ => fun
  | [d1, d2, d3, d4] => { results := [.lit (.bool true)], args := [d1, d2, d3, d4] }
  | _ => none }
def bootMeetsRow : OpenClaim := { program := "ytefaedjjecfabaagreat", sum := "1e664a4c3860540758ab85ce6c3ca9ccc654e38596e6bee258a74275593226d5", func := "tenor/tenorlaw13.BootMeets", spec := "bootMeets", inPlace := ["math.Float64bits", "math/bits.Sub64", "math/bits.Add64", "math.Float64frombits", "math.archFloor", "math.archTrunc"], unfollowed := true, recurses := true, named := ["math/bits.divideError", "math/bits.overflowError"], plainKeys := false, apart := false }
def BootMeetsSaid : Prop := bootMeetsRow.holds Tryz.pinned (OpenSpec.ofChange bootMeetsSpec)

/-- ITS FALSE NEIGHBOUR: 'it returns false'. Refute it at one input. -/
def bootMeetsWrong : ChangeSpec := { name := "bootMeets", fn := fun _ => fun
  | [d1, d2, d3, d4] => { results := [.lit (.bool false)], args := [d1, d2, d3, d4] }
  | _ => none }
def BootMeetsWrongFalsely : Prop := bootMeetsRow.holds Tryz.pinned (OpenSpec.ofChange bootMeetsWrong)

/-- 'tenorlaw25.GridRuns': WHATEVER THE INPUT: true; the input reads as it did. -/
def gridRunsSpec : ChangeSpec := { name := "gridRuns", fn := fun _ => fun
  | [d1, d2, d3, d4] => { results := [.lit (.bool true)], args := [d1, d2, d3, d4] }
  | _ => none }
def gridRunsRow : OpenClaim := { program := "ytefaedjjecfabaagreat", sum := "1e664a4c3860540758ab85ce6c3ca9ccc654e38596e6bee258a74275593226d5", func := "tenor/tenorlaw25.GridRuns", spec := "gridRuns", inPlace := ["math.Float64bits", "math/bits.Sub64", "math/bits.Add64", "math.Float64frombits", "math.archFloor", "math.archTrunc"], unfollowed := true, recurses := true, named := ["math/bits.divideError", "math/bits.overflowError"], plainKeys := false, apart := false }
def GridRunsSaid : Prop := gridRunsRow.holds Tryz.pinned (OpenSpec.ofChange gridRunsSpec)

/-- ITS FALSE NEIGHBOUR: 'it returns false'. Refute it at one input. -/
def gridRunsWrong : ChangeSpec := { name := "gridRuns", fn := fun _ => fun
  | [d1, d2, d3, d4] => { results := [.lit (.bool false)], args := [d1, d2, d3, d4] }
  | _ => none }
def GridRunsWrongFalsely : Prop := gridRunsRow.holds Tryz.pinned (OpenSpec.ofChange gridRunsWrong)

/-- 'tenorlaw25.GridOrder': WHATEVER THE INPUT: true; the input reads as it did. -/
def gridOrderSpec : ChangeSpec := { name := "gridOrder", fn := fun _ => fun
  | [d1, d2, d3, d4] => { results := [.lit (.bool true)], args := [d1, d2, d3, d4] }
  | _ => none }
def gridOrderRow : OpenClaim := { program := "ytefaedjjecfabaagreat", sum := "1e664a4c3860540758ab85ce6c3ca9ccc654e38596e6bee258a74275593226d5", func := "tenor/tenorlaw25.GridOrder", spec := "gridOrder", inPlace := ["math.Float64bits", "math/bits.Sub64", "math/bits.Add64", "math.Float64frombits", "math.archFloor", "math.archTrunc"], unfollowed := true, recurses := true, named := ["math/bits.divideError", "math/bits.overflowError"], plainKeys := false, apart := false }
def GridOrderSaid : Prop := gridOrderRow.holds Tryz.pinned (OpenSpec.ofChange gridOrderSpec)

/-- ITS FALSE NEIGHBOUR: 'it returns false'. Refute it at one input. -/
def gridOrderWrong : ChangeSpec := { name := "gridOrder", fn := fun _ => fun
  | [d1, d2, d3, d4] => { results := [.lit (.bool false)], args := [d1, d2, d3, d4] }
  | _ => none }
def GridOrderWrongFalsely : Prop := gridOrderRow.holds Tryz.pinned (OpenSpec.ofChange gridOrderWrong)

/-- 'tenorlaw16.RiskQuotes': WHATEVER THE INPUT: true; the input reads as it did. -/
def riskQuotesSpec : ChangeSpec := { name := "riskQuotes", fn := fun _ => fun
  | [d1, d2, d3, d4, d5, d6, d7] => { results := [.lit (.bool true)], args := [d1, d2, d3, d4, d5, d6, d7] }
  | _ => none }
def riskQuotesRow : OpenClaim := { program := "ytefaedjjecfabaagreat", sum := "1e664a4c3860540758ab85ce6c3ca9ccc654e38596e6bee258a74275593226d5", func := "tenor/tenorlaw16.RiskQuotes", spec := "riskQuotes", inPlace := ["math.Float64bits", "math.Float64frombits", "math.archFloor", "math.archTrunc", "math/bits.Sub64", "math/bits.Add64", "math.Float32bits", "math.Float32frombits"], unfollowed := true, recurses := true, named := ["math/bits.divideError", "math/bits.overflowError"], plainKeys := false, apart := false }
def RiskQuotesSaid : Prop := riskQuotesRow.holds Tryz.pinned (OpenSpec.ofChange riskQuotesSpec)

/-- ITS FALSE NEIGHBOUR: 'it returns false'. Refute it at one input. -/
def riskQuotesWrong : ChangeSpec := { name := "riskQuotes", fn := fun _ => fun
  | [d1, d2, d3, d4, d5, d6, d7] => { results := [.lit (.bool false)], args := [d1, d2, d3, d4, d5, d6, d7] }
  | _ => none }
def RiskQuotesWrongFalsely : Prop := riskQuotesRow.holds Tryz.pinned (OpenSpec.ofChange riskQuotesWrong)

/-- 'tenorlaw14.FlowFloat': WHATEVER THE INPUT: true; the input reads as it did. -/
def flowFloatSpec : ChangeSpec := { name := "flowFloat", fn := fun _ => fun
  | [d1, d2] => { results := [.lit (.bool true)], args := [d1, d2] }
  | _ => none }
def flowFloatRow : OpenClaim := { program := "ytefaedjjecfabaagreat", sum := "1e664a4c3860540758ab85ce6c3ca9ccc654e38596e6bee258a74275593226d5", func := "tenor/tenorlaw14.FlowFloat", spec := "flowFloat", inPlace := ["math.Float64bits", "math/bits.Sub64", "math/bits.Add64", "math.Float64frombits", "math.archFloor", "math.archTrunc"], unfollowed := true, recurses := true, named := ["math/bits.divideError", "math/bits.overflowError"], plainKeys := false, apart := false }
def FlowFloatSaid : Prop := flowFloatRow.holds Tryz.pinned (OpenSpec.ofChange flowFloatSpec)

/-- ITS FALSE NEIGHBOUR: 'it returns false'. Refute it at one input. -/
def flowFloatWrong : ChangeSpec := { name := "flowFloat", fn := fun _ => fun
  | [d1, d2] => { results := [.lit (.bool false)], args := [d1, d2] }
  | _ => none }
def FlowFloatWrongFalsely : Prop := flowFloatRow.holds Tryz.pinned (OpenSpec.ofChange flowFloatWrong)

/-- 'tenorlaw22.BondAccrues': WHATEVER THE INPUT: true; the input reads as it did. -/
def bondAccruesSpec : ChangeSpec := { name := "bondAccrues", fn := fun _ => fun
  | [d1, d2] => { results := [.lit (.bool true)], args := [d1, d2] }
  | _ => none }
def bondAccruesRow : OpenClaim := { program := "ytefaedjjecfabaagreat", sum := "1e664a4c3860540758ab85ce6c3ca9ccc654e38596e6bee258a74275593226d5", func := "tenor/tenorlaw22.BondAccrues", spec := "bondAccrues", inPlace := ["math.Float64bits", "math.Float64frombits", "math.archFloor", "math.archTrunc", "math/bits.Sub64", "math/bits.Add64"], unfollowed := true, recurses := true, named := ["math/bits.divideError", "math/bits.overflowError"], plainKeys := false, apart := false }
def BondAccruesSaid : Prop := bondAccruesRow.holds Tryz.pinned (OpenSpec.ofChange bondAccruesSpec)

/-- ITS FALSE NEIGHBOUR: 'it returns false'. Refute it at one input. -/
def bondAccruesWrong : ChangeSpec := { name := "bondAccrues", fn := fun _ => fun
  | [d1, d2] => { results := [.lit (.bool false)], args := [d1, d2] }
  | _ => none }
def BondAccruesWrongFalsely : Prop := bondAccruesRow.holds Tryz.pinned (OpenSpec.ofChange bondAccruesWrong)

/-- 'tenorlaw22.BondYields': WHATEVER THE INPUT: true; the input reads as it did. -/
def bondYieldsSpec : ChangeSpec := { name := "bondYields", fn := fun _ => fun
  | [d1, d2, d3, d4, d5, d6] => { results := [.lit (.bool true)], args := [d1, d2, d3, d4, d5, d6] }
  | _ => none }
def bondYieldsRow : OpenClaim := { program := "ytefaedjjecfabaagreat", sum := "1e664a4c3860540758ab85ce6c3ca9ccc654e38596e6bee258a74275593226d5", func := "tenor/tenorlaw22.BondYields", spec := "bondYields", inPlace := ["math.Float64bits", "math.Float64frombits", "math.archFloor", "math.archTrunc", "math/bits.Sub64", "math/bits.Add64"], unfollowed := true, recurses := true, named := ["math/bits.divideError", "math/bits.overflowError"], plainKeys := false, apart := false }
def BondYieldsSaid : Prop := bondYieldsRow.holds Tryz.pinned (OpenSpec.ofChange bondYieldsSpec)

/-- ITS FALSE NEIGHBOUR: 'it returns false'. Refute it at one input. -/
def bondYieldsWrong : ChangeSpec := { name := "bondYields", fn := fun _ => fun
  | [d1, d2, d3, d4, d5, d6] => { results := [.lit (.bool false)], args := [d1, d2, d3, d4, d5, d6] }
  | _ => none }
def BondYieldsWrongFalsely : Prop := bondYieldsRow.holds Tryz.pinned (OpenSpec.ofChange bondYieldsWrong)

/-- 'tenorlaw22.BondRises': WHATEVER THE INPUT: true; the input reads as it did. -/
def bondRisesSpec : ChangeSpec := { name := "bondRises", fn := fun _ => fun
  | [d1, d2, d3] => { results := [.lit (.bool true)], args := [d1, d2, d3] }
  | _ => none }
def bondRisesRow : OpenClaim := { program := "ytefaedjjecfabaagreat", sum := "1e664a4c3860540758ab85ce6c3ca9ccc654e38596e6bee258a74275593226d5", func := "tenor/tenorlaw22.BondRises", spec := "bondRises", inPlace := ["math.Float64bits", "math.Float64frombits", "math.archFloor", "math.archTrunc", "math/bits.Sub64", "math/bits.Add64"], unfollowed := true, recurses := true, named := ["math/bits.divideError", "math/bits.overflowError"], plainKeys := false, apart := false }
def BondRisesSaid : Prop := bondRisesRow.holds Tryz.pinned (OpenSpec.ofChange bondRisesSpec)

/-- ITS FALSE NEIGHBOUR: 'it returns false'. Refute it at one input. -/
def bondRisesWrong : ChangeSpec := { name := "bondRises", fn := fun _ => fun
  | [d1, d2, d3] => { results := [.lit (.bool false)], args := [d1, d2, d3] }
  | _ => none }
def BondRisesWrongFalsely : Prop := bondRisesRow.holds Tryz.pinned (OpenSpec.ofChange bondRisesWrong)

/-- 'tenorlaw22.BondFalls': WHATEVER THE INPUT: true; the input reads as it did. -/
def bondFallsSpec : ChangeSpec := { name := "bondFalls", fn := fun _ => fun
  | [d1, d2, d3, d4, d5, d6] => { results := [.lit (.bool true)], args := [d1, d2, d3, d4, d5, d6] }
  | _ => none }
def bondFallsRow : OpenClaim := { program := "ytefaedjjecfabaagreat", sum := "1e664a4c3860540758ab85ce6c3ca9ccc654e38596e6bee258a74275593226d5", func := "tenor/tenorlaw22.BondFalls", spec := "bondFalls", inPlace := ["math.Float64bits", "math.Float64frombits", "math.archFloor", "math.archTrunc", "math/bits.Sub64", "math/bits.Add64"], unfollowed := true, recurses := true, named := ["math/bits.divideError", "math/bits.overflowError"], plainKeys := false, apart := false }
def BondFallsSaid : Prop := bondFallsRow.holds Tryz.pinned (OpenSpec.ofChange bondFallsSpec)

/-- ITS FALSE NEIGHBOUR: 'it returns false'. Refute it at one input. -/
def bondFallsWrong : ChangeSpec := { name := "bondFalls", fn := fun _ => fun
  | [d1, d2, d3, d4, d5, d6] => { results := [.lit (.bool false)], args := [d1, d2, d3, d4, d5, d6] }
  | _ => none }
def BondFallsWrongFalsely : Prop := bondFallsRow.holds Tryz.pinned (OpenSpec.ofChange bondFallsWrong)

/-- 'tenorlaw22.BondOrder': WHATEVER THE INPUT: true; the input reads as it did. -/
def bondOrderSpec : ChangeSpec := { name := "bondOrder", fn := fun _ => fun
  | [d1, d2, d3, d4, d5, d6, d7] => { results := [.lit (.bool true)], args := [d1, d2, d3, d4, d5, d6, d7] }
  | _ => none }
def bondOrderRow : OpenClaim := { program := "ytefaedjjecfabaagreat", sum := "1e664a4c3860540758ab85ce6c3ca9ccc654e38596e6bee258a74275593226d5", func := "tenor/tenorlaw22.BondOrder", spec := "bondOrder", inPlace := ["math.Float64bits", "math.Float64frombits", "math.archFloor", "math.archTrunc", "math/bits.Sub64", "math/bits.Add64"], unfollowed := true, recurses := true, named := ["math/bits.divideError", "math/bits.overflowError"], plainKeys := false, apart := false }
def BondOrderSaid : Prop := bondOrderRow.holds Tryz.pinned (OpenSpec.ofChange bondOrderSpec)

/-- ITS FALSE NEIGHBOUR: 'it returns false'. Refute it at one input. -/
def bondOrderWrong : ChangeSpec := { name := "bondOrder", fn := fun _ => fun
  | [d1, d2, d3, d4, d5, d6, d7] => { results := [.lit (.bool false)], args := [d1, d2, d3, d4, d5, d6, d7] }
  | _ => none }
def BondOrderWrongFalsely : Prop := bondOrderRow.holds Tryz.pinned (OpenSpec.ofChange bondOrderWrong)

/-- 'tenorlaw22.BondWorths': WHATEVER THE INPUT: true; the input reads as it did. -/
def bondWorthsSpec : ChangeSpec := { name := "bondWorths", fn := fun _ => fun
  | [d1, d2, d3, d4, d5, d6, d7] => { results := [.lit (.bool true)], args := [d1, d2, d3, d4, d5, d6, d7] }
  | _ => none }
def bondWorthsRow : OpenClaim := { program := "ytefaedjjecfabaagreat", sum := "1e664a4c3860540758ab85ce6c3ca9ccc654e38596e6bee258a74275593226d5", func := "tenor/tenorlaw22.BondWorths", spec := "bondWorths", inPlace := ["math.Float64bits", "math.Float64frombits", "math.archFloor", "math.archTrunc", "math/bits.Sub64", "math/bits.Add64"], unfollowed := true, recurses := true, named := ["math/bits.divideError", "math/bits.overflowError"], plainKeys := false, apart := false }
def BondWorthsSaid : Prop := bondWorthsRow.holds Tryz.pinned (OpenSpec.ofChange bondWorthsSpec)

/-- ITS FALSE NEIGHBOUR: 'it returns false'. Refute it at one input. -/
def bondWorthsWrong : ChangeSpec := { name := "bondWorths", fn := fun _ => fun
  | [d1, d2, d3, d4, d5, d6, d7] => { results := [.lit (.bool false)], args := [d1, d2, d3, d4, d5, d6, d7] }
  | _ => none }
def BondWorthsWrongFalsely : Prop := bondWorthsRow.holds Tryz.pinned (OpenSpec.ofChange bondWorthsWrong)

/-- 'tenorlaw22.BondPrices': WHATEVER THE INPUT: true; the input reads as it did. -/
def bondPricesSpec : ChangeSpec := { name := "bondPrices", fn := fun _ => fun
  | [d1, d2] => { results := [.lit (.bool true)], args := [d1, d2] }
  | _ => none }
def bondPricesRow : OpenClaim := { program := "ytefaedjjecfabaagreat", sum := "1e664a4c3860540758ab85ce6c3ca9ccc654e38596e6bee258a74275593226d5", func := "tenor/tenorlaw22.BondPrices", spec := "bondPrices", inPlace := ["math.Float64bits", "math.Float64frombits", "math.archFloor", "math.archTrunc", "math/bits.Sub64", "math/bits.Add64"], unfollowed := true, recurses := true, named := ["math/bits.divideError", "math/bits.overflowError"], plainKeys := false, apart := false }
def BondPricesSaid : Prop := bondPricesRow.holds Tryz.pinned (OpenSpec.ofChange bondPricesSpec)

/-- ITS FALSE NEIGHBOUR: 'it returns false'. Refute it at one input. -/
def bondPricesWrong : ChangeSpec := { name := "bondPrices", fn := fun _ => fun
  | [d1, d2] => { results := [.lit (.bool false)], args := [d1, d2] }
  | _ => none }
def BondPricesWrongFalsely : Prop := bondPricesRow.holds Tryz.pinned (OpenSpec.ofChange bondPricesWrong)

/- THE SECOND FORM. 'bulk': how many values and letters a reading holds, each counted each time it is reached (what is shared counts as often as it is met; a slice's spare places count too). A statement '..UptoSaid' is the law's where the arguments, and the package variables that the reading takes, are together of bulk at most 1048576: NARROWER than '..Said'. Prove '..Said' where nothing that the law and all that it calls make is longer than what came in: it says more and counts as full. Else prove '..UptoSaid'. A law counts once. -/
mutual
def uptoBulk {H : Type} : DataW H → Nat
  | .lit (.string bytes) => bytes.length + 1
  | .lit _ => 1
  | .nil => 1
  | .ptr d => uptoBulk d + 1
  | .slice elems spare => uptoBulkAll elems + uptoBulkAll spare + 1
  | .agg parts => uptoBulkAll parts + 1
  | .iface _ d => uptoBulk d + 1
  | .map entries => uptoBulkEntries entries + 1
  | .held _ => 1
def uptoBulkAll {H : Type} : List (DataW H) → Nat
  | [] => 0
  | d :: r => uptoBulk d + uptoBulkAll r
def uptoBulkEntries {H : Type} : List (Lit × DataW H) → Nat
  | [] => 0
  | x :: r => uptoBulkEntry x + uptoBulkEntries r
def uptoBulkEntry {H : Type} : Lit × DataW H → Nat
  | (.string bytes, d) => bytes.length + uptoBulk d + 1
  | (_, d) => uptoBulk d + 1
 end
def uptoSmall : (H : Type) → List (DataW H) → Bool := fun _ ds => decide (uptoBulkAll ds ≤ 1048576)
def OpenSpec.upto (s : _root_.Go.ChangeSpec) : _root_.Go.OpenSpec := { _root_.Go.OpenSpec.ofChange s with cond := some uptoSmall }

/-- 'tenorlaw11.CurveSingles', WHERE WHAT IT READS IS OF BULK AT MOST 1048576: true; the input reads as it did. -/
def curveSinglesUptoRow : OpenClaim := { program := "ytefaedjjecfabaagreat", sum := "1e664a4c3860540758ab85ce6c3ca9ccc654e38596e6bee258a74275593226d5", func := "tenor/tenorlaw11.CurveSingles", spec := "curveSingles", inPlace := ["math.Float64bits", "math/bits.Sub64", "math/bits.Add64", "math.Float64frombits", "math.archFloor", "math.archTrunc"], unfollowed := true, recurses := true, named := ["math/bits.divideError", "math/bits.overflowError"], plainKeys := false, apart := false, narrowed := true }
def CurveSinglesUptoSaid : Prop := curveSinglesUptoRow.holds Tryz.pinned (OpenSpec.upto curveSinglesSpec)

/-- 'tenorlaw11.CurveHalf', WHERE WHAT IT READS IS OF BULK AT MOST 1048576: true; the input reads as it did. -/
def curveHalfUptoRow : OpenClaim := { program := "ytefaedjjecfabaagreat", sum := "1e664a4c3860540758ab85ce6c3ca9ccc654e38596e6bee258a74275593226d5", func := "tenor/tenorlaw11.CurveHalf", spec := "curveHalf", inPlace := ["math.Float64bits", "math/bits.Sub64", "math/bits.Add64", "math.Float64frombits", "math.archFloor", "math.archTrunc"], unfollowed := true, recurses := true, named := ["math/bits.divideError", "math/bits.overflowError"], plainKeys := false, apart := false, narrowed := true }
def CurveHalfUptoSaid : Prop := curveHalfUptoRow.holds Tryz.pinned (OpenSpec.upto curveHalfSpec)

/-- 'tenorlaw11.CurveLent', WHERE WHAT IT READS IS OF BULK AT MOST 1048576: true; the input reads as it did. -/
def curveLentUptoRow : OpenClaim := { program := "ytefaedjjecfabaagreat", sum := "1e664a4c3860540758ab85ce6c3ca9ccc654e38596e6bee258a74275593226d5", func := "tenor/tenorlaw11.CurveLent", spec := "curveLent", inPlace := ["math.Float64bits", "math/bits.Sub64", "math/bits.Add64", "math.Float64frombits", "math.archFloor", "math.archTrunc"], unfollowed := true, recurses := true, named := ["math/bits.divideError", "math/bits.overflowError"], plainKeys := false, apart := false, narrowed := true }
def CurveLentUptoSaid : Prop := curveLentUptoRow.holds Tryz.pinned (OpenSpec.upto curveLentSpec)

/-- 'tenorlaw11.CurveRates', WHERE WHAT IT READS IS OF BULK AT MOST 1048576: true; the input reads as it did. -/
def curveRatesUptoRow : OpenClaim := { program := "ytefaedjjecfabaagreat", sum := "1e664a4c3860540758ab85ce6c3ca9ccc654e38596e6bee258a74275593226d5", func := "tenor/tenorlaw11.CurveRates", spec := "curveRates", inPlace := ["math.Float64bits", "math/bits.Sub64", "math/bits.Add64", "math.Float64frombits", "math.archFloor", "math.archTrunc"], unfollowed := true, recurses := true, named := ["math/bits.divideError", "math/bits.overflowError"], plainKeys := false, apart := false, narrowed := true }
def CurveRatesUptoSaid : Prop := curveRatesUptoRow.holds Tryz.pinned (OpenSpec.upto curveRatesSpec)

/-- 'tenorlaw11.CurveChecks', WHERE WHAT IT READS IS OF BULK AT MOST 1048576: true; the input reads as it did. -/
def curveChecksUptoRow : OpenClaim := { program := "ytefaedjjecfabaagreat", sum := "1e664a4c3860540758ab85ce6c3ca9ccc654e38596e6bee258a74275593226d5", func := "tenor/tenorlaw11.CurveChecks", spec := "curveChecks", inPlace := ["math.Float64bits", "math/bits.Sub64", "math/bits.Add64", "math.Float64frombits", "math.archFloor", "math.archTrunc"], unfollowed := true, recurses := true, named := ["math/bits.divideError", "math/bits.overflowError"], plainKeys := false, apart := false, narrowed := true }
def CurveChecksUptoSaid : Prop := curveChecksUptoRow.holds Tryz.pinned (OpenSpec.upto curveChecksSpec)

/-- 'tenorlaw15.PriceNets', WHERE WHAT IT READS IS OF BULK AT MOST 1048576: true; the input reads as it did. -/
def priceNetsUptoRow : OpenClaim := { program := "ytefaedjjecfabaagreat", sum := "1e664a4c3860540758ab85ce6c3ca9ccc654e38596e6bee258a74275593226d5", func := "tenor/tenorlaw15.PriceNets", spec := "priceNets", inPlace := ["math.Float64bits", "math/bits.Sub64", "math/bits.Add64", "math.Float64frombits", "math.archFloor", "math.archTrunc"], unfollowed := true, recurses := true, named := ["math/bits.divideError", "math/bits.overflowError"], plainKeys := false, apart := false, narrowed := true }
def PriceNetsUptoSaid : Prop := priceNetsUptoRow.holds Tryz.pinned (OpenSpec.upto priceNetsSpec)

/-- 'tenorlaw13.BootFirst', WHERE WHAT IT READS IS OF BULK AT MOST 1048576: true; the input reads as it did. -/
def bootFirstUptoRow : OpenClaim := { program := "ytefaedjjecfabaagreat", sum := "1e664a4c3860540758ab85ce6c3ca9ccc654e38596e6bee258a74275593226d5", func := "tenor/tenorlaw13.BootFirst", spec := "bootFirst", inPlace := ["math.Float64bits", "math/bits.Sub64", "math/bits.Add64", "math.Float64frombits", "math.archFloor", "math.archTrunc"], unfollowed := true, recurses := true, named := ["math/bits.divideError", "math/bits.overflowError"], plainKeys := false, apart := false, narrowed := true }
def BootFirstUptoSaid : Prop := bootFirstUptoRow.holds Tryz.pinned (OpenSpec.upto bootFirstSpec)

/-- 'tenorlaw13.BootChecks', WHERE WHAT IT READS IS OF BULK AT MOST 1048576: true; the input reads as it did. -/
def bootChecksUptoRow : OpenClaim := { program := "ytefaedjjecfabaagreat", sum := "1e664a4c3860540758ab85ce6c3ca9ccc654e38596e6bee258a74275593226d5", func := "tenor/tenorlaw13.BootChecks", spec := "bootChecks", inPlace := ["math.Float64bits", "math/bits.Sub64", "math/bits.Add64", "math.Float64frombits", "math.archFloor", "math.archTrunc", "math.Float32bits"], unfollowed := true, recurses := true, named := ["math/bits.divideError", "math/bits.overflowError"], plainKeys := false, apart := false, narrowed := true }
def BootChecksUptoSaid : Prop := bootChecksUptoRow.holds Tryz.pinned (OpenSpec.upto bootChecksSpec)

/-- 'tenorlaw13.BootWorths', WHERE WHAT IT READS IS OF BULK AT MOST 1048576: true; the input reads as it did. -/
def bootWorthsUptoRow : OpenClaim := { program := "ytefaedjjecfabaagreat", sum := "1e664a4c3860540758ab85ce6c3ca9ccc654e38596e6bee258a74275593226d5", func := "tenor/tenorlaw13.BootWorths", spec := "bootWorths", inPlace := ["math.Float64bits", "math/bits.Sub64", "math/bits.Add64", "math.Float64frombits", "math.archFloor", "math.archTrunc", "math.Float32bits"], unfollowed := true, recurses := true, named := ["math/bits.divideError", "math/bits.overflowError"], plainKeys := false, apart := false, narrowed := true }
def BootWorthsUptoSaid : Prop := bootWorthsUptoRow.holds Tryz.pinned (OpenSpec.upto bootWorthsSpec)

/-- 'tenorlaw13.BootBuilds', WHERE WHAT IT READS IS OF BULK AT MOST 1048576: true; the input reads as it did. -/
def bootBuildsUptoRow : OpenClaim := { program := "ytefaedjjecfabaagreat", sum := "1e664a4c3860540758ab85ce6c3ca9ccc654e38596e6bee258a74275593226d5", func := "tenor/tenorlaw13.BootBuilds", spec := "bootBuilds", inPlace := ["math.Float64bits", "math/bits.Sub64", "math/bits.Add64", "math.Float64frombits", "math.archFloor", "math.archTrunc", "math.Float32bits"], unfollowed := true, recurses := true, named := ["math/bits.divideError", "math/bits.overflowError"], plainKeys := false, apart := false, narrowed := true }
def BootBuildsUptoSaid : Prop := bootBuildsUptoRow.holds Tryz.pinned (OpenSpec.upto bootBuildsSpec)

/-- 'tenorlaw13.BootLent', WHERE WHAT IT READS IS OF BULK AT MOST 1048576: true; the input reads as it did. -/
def bootLentUptoRow : OpenClaim := { program := "ytefaedjjecfabaagreat", sum := "1e664a4c3860540758ab85ce6c3ca9ccc654e38596e6bee258a74275593226d5", func := "tenor/tenorlaw13.BootLent", spec := "bootLent", inPlace := ["math.Float64bits", "math/bits.Sub64", "math/bits.Add64", "math.Float64frombits", "math.archFloor", "math.archTrunc", "math.Float32bits"], unfollowed := true, recurses := true, named := ["math/bits.divideError", "math/bits.overflowError"], plainKeys := false, apart := false, narrowed := true }
def BootLentUptoSaid : Prop := bootLentUptoRow.holds Tryz.pinned (OpenSpec.upto bootLentSpec)

/-- 'tenorlaw14.FlowFixed', WHERE WHAT IT READS IS OF BULK AT MOST 1048576: true; the input reads as it did. -/
def flowFixedUptoRow : OpenClaim := { program := "ytefaedjjecfabaagreat", sum := "1e664a4c3860540758ab85ce6c3ca9ccc654e38596e6bee258a74275593226d5", func := "tenor/tenorlaw14.FlowFixed", spec := "flowFixed", inPlace := ["math.Float64bits", "math/bits.Sub64", "math/bits.Add64", "math.Float64frombits"], unfollowed := true, recurses := true, named := ["math/bits.divideError", "math/bits.overflowError"], plainKeys := false, apart := false, narrowed := true }
def FlowFixedUptoSaid : Prop := flowFixedUptoRow.holds Tryz.pinned (OpenSpec.upto flowFixedSpec)

/-- 'tenorlaw15.PricePars', WHERE WHAT IT READS IS OF BULK AT MOST 1048576: true; the input reads as it did. -/
def priceParsUptoRow : OpenClaim := { program := "ytefaedjjecfabaagreat", sum := "1e664a4c3860540758ab85ce6c3ca9ccc654e38596e6bee258a74275593226d5", func := "tenor/tenorlaw15.PricePars", spec := "pricePars", inPlace := ["math.Float64bits", "math/bits.Sub64", "math/bits.Add64", "math.Float64frombits", "math.archFloor", "math.archTrunc"], unfollowed := true, recurses := true, named := ["math/bits.divideError", "math/bits.overflowError"], plainKeys := false, apart := false, narrowed := true }
def PriceParsUptoSaid : Prop := priceParsUptoRow.holds Tryz.pinned (OpenSpec.upto priceParsSpec)

/-- 'tenorlaw13.BootMeets', WHERE WHAT IT READS IS OF BULK AT MOST 1048576: true; the input reads as it did. -/
def bootMeetsUptoRow : OpenClaim := { program := "ytefaedjjecfabaagreat", sum := "1e664a4c3860540758ab85ce6c3ca9ccc654e38596e6bee258a74275593226d5", func := "tenor/tenorlaw13.BootMeets", spec := "bootMeets", inPlace := ["math.Float64bits", "math/bits.Sub64", "math/bits.Add64", "math.Float64frombits", "math.archFloor", "math.archTrunc"], unfollowed := true, recurses := true, named := ["math/bits.divideError", "math/bits.overflowError"], plainKeys := false, apart := false, narrowed := true }
def BootMeetsUptoSaid : Prop := bootMeetsUptoRow.holds Tryz.pinned (OpenSpec.upto bootMeetsSpec)

/-- 'tenorlaw25.GridRuns', WHERE WHAT IT READS IS OF BULK AT MOST 1048576: true; the input reads as it did. -/
def gridRunsUptoRow : OpenClaim := { program := "ytefaedjjecfabaagreat", sum := "1e664a4c3860540758ab85ce6c3ca9ccc654e38596e6bee258a74275593226d5", func := "tenor/tenorlaw25.GridRuns", spec := "gridRuns", inPlace := ["math.Float64bits", "math/bits.Sub64", "math/bits.Add64", "math.Float64frombits", "math.archFloor", "math.archTrunc"], unfollowed := true, recurses := true, named := ["math/bits.divideError", "math/bits.overflowError"], plainKeys := false, apart := false, narrowed := true }
def GridRunsUptoSaid : Prop := gridRunsUptoRow.holds Tryz.pinned (OpenSpec.upto gridRunsSpec)

/-- 'tenorlaw25.GridOrder', WHERE WHAT IT READS IS OF BULK AT MOST 1048576: true; the input reads as it did. -/
def gridOrderUptoRow : OpenClaim := { program := "ytefaedjjecfabaagreat", sum := "1e664a4c3860540758ab85ce6c3ca9ccc654e38596e6bee258a74275593226d5", func := "tenor/tenorlaw25.GridOrder", spec := "gridOrder", inPlace := ["math.Float64bits", "math/bits.Sub64", "math/bits.Add64", "math.Float64frombits", "math.archFloor", "math.archTrunc"], unfollowed := true, recurses := true, named := ["math/bits.divideError", "math/bits.overflowError"], plainKeys := false, apart := false, narrowed := true }
def GridOrderUptoSaid : Prop := gridOrderUptoRow.holds Tryz.pinned (OpenSpec.upto gridOrderSpec)

/-- 'tenorlaw16.RiskQuotes', WHERE WHAT IT READS IS OF BULK AT MOST 1048576: true; the input reads as it did. -/
def riskQuotesUptoRow : OpenClaim := { program := "ytefaedjjecfabaagreat", sum := "1e664a4c3860540758ab85ce6c3ca9ccc654e38596e6bee258a74275593226d5", func := "tenor/tenorlaw16.RiskQuotes", spec := "riskQuotes", inPlace := ["math.Float64bits", "math.Float64frombits", "math.archFloor", "math.archTrunc", "math/bits.Sub64", "math/bits.Add64", "math.Float32bits", "math.Float32frombits"], unfollowed := true, recurses := true, named := ["math/bits.divideError", "math/bits.overflowError"], plainKeys := false, apart := false, narrowed := true }
def RiskQuotesUptoSaid : Prop := riskQuotesUptoRow.holds Tryz.pinned (OpenSpec.upto riskQuotesSpec)

/-- 'tenorlaw14.FlowFloat', WHERE WHAT IT READS IS OF BULK AT MOST 1048576: true; the input reads as it did. -/
def flowFloatUptoRow : OpenClaim := { program := "ytefaedjjecfabaagreat", sum := "1e664a4c3860540758ab85ce6c3ca9ccc654e38596e6bee258a74275593226d5", func := "tenor/tenorlaw14.FlowFloat", spec := "flowFloat", inPlace := ["math.Float64bits", "math/bits.Sub64", "math/bits.Add64", "math.Float64frombits", "math.archFloor", "math.archTrunc"], unfollowed := true, recurses := true, named := ["math/bits.divideError", "math/bits.overflowError"], plainKeys := false, apart := false, narrowed := true }
def FlowFloatUptoSaid : Prop := flowFloatUptoRow.holds Tryz.pinned (OpenSpec.upto flowFloatSpec)

/-- 'tenorlaw22.BondAccrues', WHERE WHAT IT READS IS OF BULK AT MOST 1048576: true; the input reads as it did. -/
def bondAccruesUptoRow : OpenClaim := { program := "ytefaedjjecfabaagreat", sum := "1e664a4c3860540758ab85ce6c3ca9ccc654e38596e6bee258a74275593226d5", func := "tenor/tenorlaw22.BondAccrues", spec := "bondAccrues", inPlace := ["math.Float64bits", "math.Float64frombits", "math.archFloor", "math.archTrunc", "math/bits.Sub64", "math/bits.Add64"], unfollowed := true, recurses := true, named := ["math/bits.divideError", "math/bits.overflowError"], plainKeys := false, apart := false, narrowed := true }
def BondAccruesUptoSaid : Prop := bondAccruesUptoRow.holds Tryz.pinned (OpenSpec.upto bondAccruesSpec)

/-- 'tenorlaw22.BondYields', WHERE WHAT IT READS IS OF BULK AT MOST 1048576: true; the input reads as it did. -/
def bondYieldsUptoRow : OpenClaim := { program := "ytefaedjjecfabaagreat", sum := "1e664a4c3860540758ab85ce6c3ca9ccc654e38596e6bee258a74275593226d5", func := "tenor/tenorlaw22.BondYields", spec := "bondYields", inPlace := ["math.Float64bits", "math.Float64frombits", "math.archFloor", "math.archTrunc", "math/bits.Sub64", "math/bits.Add64"], unfollowed := true, recurses := true, named := ["math/bits.divideError", "math/bits.overflowError"], plainKeys := false, apart := false, narrowed := true }
def BondYieldsUptoSaid : Prop := bondYieldsUptoRow.holds Tryz.pinned (OpenSpec.upto bondYieldsSpec)

/-- 'tenorlaw22.BondRises', WHERE WHAT IT READS IS OF BULK AT MOST 1048576: true; the input reads as it did. -/
def bondRisesUptoRow : OpenClaim := { program := "ytefaedjjecfabaagreat", sum := "1e664a4c3860540758ab85ce6c3ca9ccc654e38596e6bee258a74275593226d5", func := "tenor/tenorlaw22.BondRises", spec := "bondRises", inPlace := ["math.Float64bits", "math.Float64frombits", "math.archFloor", "math.archTrunc", "math/bits.Sub64", "math/bits.Add64"], unfollowed := true, recurses := true, named := ["math/bits.divideError", "math/bits.overflowError"], plainKeys := false, apart := false, narrowed := true }
def BondRisesUptoSaid : Prop := bondRisesUptoRow.holds Tryz.pinned (OpenSpec.upto bondRisesSpec)

/-- 'tenorlaw22.BondFalls', WHERE WHAT IT READS IS OF BULK AT MOST 1048576: true; the input reads as it did. -/
def bondFallsUptoRow : OpenClaim := { program := "ytefaedjjecfabaagreat", sum := "1e664a4c3860540758ab85ce6c3ca9ccc654e38596e6bee258a74275593226d5", func := "tenor/tenorlaw22.BondFalls", spec := "bondFalls", inPlace := ["math.Float64bits", "math.Float64frombits", "math.archFloor", "math.archTrunc", "math/bits.Sub64", "math/bits.Add64"], unfollowed := true, recurses := true, named := ["math/bits.divideError", "math/bits.overflowError"], plainKeys := false, apart := false, narrowed := true }
def BondFallsUptoSaid : Prop := bondFallsUptoRow.holds Tryz.pinned (OpenSpec.upto bondFallsSpec)

/-- 'tenorlaw22.BondOrder', WHERE WHAT IT READS IS OF BULK AT MOST 1048576: true; the input reads as it did. -/
def bondOrderUptoRow : OpenClaim := { program := "ytefaedjjecfabaagreat", sum := "1e664a4c3860540758ab85ce6c3ca9ccc654e38596e6bee258a74275593226d5", func := "tenor/tenorlaw22.BondOrder", spec := "bondOrder", inPlace := ["math.Float64bits", "math.Float64frombits", "math.archFloor", "math.archTrunc", "math/bits.Sub64", "math/bits.Add64"], unfollowed := true, recurses := true, named := ["math/bits.divideError", "math/bits.overflowError"], plainKeys := false, apart := false, narrowed := true }
def BondOrderUptoSaid : Prop := bondOrderUptoRow.holds Tryz.pinned (OpenSpec.upto bondOrderSpec)

/-- 'tenorlaw22.BondWorths', WHERE WHAT IT READS IS OF BULK AT MOST 1048576: true; the input reads as it did. -/
def bondWorthsUptoRow : OpenClaim := { program := "ytefaedjjecfabaagreat", sum := "1e664a4c3860540758ab85ce6c3ca9ccc654e38596e6bee258a74275593226d5", func := "tenor/tenorlaw22.BondWorths", spec := "bondWorths", inPlace := ["math.Float64bits", "math.Float64frombits", "math.archFloor", "math.archTrunc", "math/bits.Sub64", "math/bits.Add64"], unfollowed := true, recurses := true, named := ["math/bits.divideError", "math/bits.overflowError"], plainKeys := false, apart := false, narrowed := true }
def BondWorthsUptoSaid : Prop := bondWorthsUptoRow.holds Tryz.pinned (OpenSpec.upto bondWorthsSpec)

/-- 'tenorlaw22.BondPrices', WHERE WHAT IT READS IS OF BULK AT MOST 1048576: true; the input reads as it did. -/
def bondPricesUptoRow : OpenClaim := { program := "ytefaedjjecfabaagreat", sum := "1e664a4c3860540758ab85ce6c3ca9ccc654e38596e6bee258a74275593226d5", func := "tenor/tenorlaw22.BondPrices", spec := "bondPrices", inPlace := ["math.Float64bits", "math.Float64frombits", "math.archFloor", "math.archTrunc", "math/bits.Sub64", "math/bits.Add64"], unfollowed := true, recurses := true, named := ["math/bits.divideError", "math/bits.overflowError"], plainKeys := false, apart := false, narrowed := true }
def BondPricesUptoSaid : Prop := bondPricesUptoRow.holds Tryz.pinned (OpenSpec.upto bondPricesSpec)

end Rows
end Go.Proofs.YtefaedjjecfabaaGreat
