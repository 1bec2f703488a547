/-
  No cell of these rows narrows 'for every input' (looked for: loops, veiled, ifaces, maps, wideKeys, modest, calm, conditions, laid).
  DERIVED. THE GIVEN ROWS OF THIS SEAT. 4 by the template 'for every input the law returns true; each argument reads behind the call as it read before'; 0 by the template 'total and deterministic' (their statements: YtmhfpiincnadiaaTotals.lean).
  GIVEN WITH THE SEED: the statements are not yours to turn. If you find one false, say at which input.
  Laid BY PROGRAM, IN A SANDBOX (cutbox-rows.mjs): the forced cells as the released guide's own fill.sh prints them over the translation f9e3c9337d2fc14c… (all of the seat's roots in one cut). By AI agents, Wed Nov 11 2026. No macro, syntax, notation, axiom, sorry.
-/
import Derived.Test.YtmhfpiincnadiaaChecked
import GoSem.Claim
import GoSem.ClaimJoined
import GoSem.ClaimMapViews
import Derived.JoinedTies
import Derived.KernelRfl
namespace Go.Proofs.Ytmhfpiincnadiaa
/- THE CELL 'sum', in the pinned program and in every row, IS THE sha256 OF THE DUMP (.gsa) THAT YtmhfpiincnadiaaProg.lean LOADS. Nothing in Lean hashes anything: it is a label: what it is worth is what the hold of that sum in a sandbox is worth. -/
noncomputable def Try.pinned : Pinned := { name := "ytmhfpiincnadiaa", sum := "f9e3c9337d2fc14cb7ba5b892877db666bb24a5e2906fefc3d7172e4a0f7e7e2", checked := Try.checked }
namespace Rows
def none {H : Type} : Left H := { results := [], args := [] }

/-- 'underpasslaw14.TunnelOwn': WHATEVER THE INPUT: true; the input reads as it did. -/
def tunnelOwnSpec : ChangeSpec := { name := "tunnelOwn", fn := fun _ => fun
  | [d] => { results := [.lit (.bool true)], args := [d] }
  | _ => none }
def tunnelOwnRow : OpenClaim := { program := "ytmhfpiincnadiaa", sum := "f9e3c9337d2fc14cb7ba5b892877db666bb24a5e2906fefc3d7172e4a0f7e7e2", func := "underpass/underpasslaw14.TunnelOwn", spec := "tunnelOwn", inPlace := ["internal/reflectlite.TypeOf"], unfollowed := true, recurses := true, plainKeys := false, apart := false }
def TunnelOwnSaid : Prop := tunnelOwnRow.holds Try.pinned (OpenSpec.ofChange tunnelOwnSpec)

/-- ITS FALSE NEIGHBOUR: 'it returns false'. Refute it at one input. -/
def tunnelOwnWrong : ChangeSpec := { name := "tunnelOwn", fn := fun _ => fun
  | [d] => { results := [.lit (.bool false)], args := [d] }
  | _ => none }
def TunnelOwnWrongFalsely : Prop := tunnelOwnRow.holds Try.pinned (OpenSpec.ofChange tunnelOwnWrong)

/-- 'underpasslaw16.BridgeRefuses': WHATEVER THE INPUT: true; the input reads as it did. -/
def bridgeRefusesSpec : ChangeSpec := { name := "bridgeRefuses", fn := fun _ => fun
  | [d1, d2, d3, d4, d5] => { results := [.lit (.bool true)], args := [d1, d2, d3, d4, d5] }
  | _ => none }
def bridgeRefusesRow : OpenClaim := { program := "ytmhfpiincnadiaa", sum := "f9e3c9337d2fc14cb7ba5b892877db666bb24a5e2906fefc3d7172e4a0f7e7e2", func := "underpass/underpasslaw16.BridgeRefuses", spec := "bridgeRefuses", inPlace := ["slices.overlaps[int]", "internal/bytealg.Compare"], unfollowed := true, recurses := true, plainKeys := false, apart := false }
def BridgeRefusesSaid : Prop := bridgeRefusesRow.holds Try.pinned (OpenSpec.ofChange bridgeRefusesSpec)

/-- ITS FALSE NEIGHBOUR: 'it returns false'. Refute it at one input. -/
def bridgeRefusesWrong : ChangeSpec := { name := "bridgeRefuses", fn := fun _ => fun
  | [d1, d2, d3, d4, d5] => { results := [.lit (.bool false)], args := [d1, d2, d3, d4, d5] }
  | _ => none }
def BridgeRefusesWrongFalsely : Prop := bridgeRefusesRow.holds Try.pinned (OpenSpec.ofChange bridgeRefusesWrong)

/-- 'underpasslaw16.BridgeForgets': WHATEVER THE INPUT: true; the input reads as it did. -/
def bridgeForgetsSpec : ChangeSpec := { name := "bridgeForgets", fn := fun _ => fun
  | [d1, d2, d3, d4, d5] => { results := [.lit (.bool true)], args := [d1, d2, d3, d4, d5] }
  | _ => none }
def bridgeForgetsRow : OpenClaim := { program := "ytmhfpiincnadiaa", sum := "f9e3c9337d2fc14cb7ba5b892877db666bb24a5e2906fefc3d7172e4a0f7e7e2", func := "underpass/underpasslaw16.BridgeForgets", spec := "bridgeForgets", inPlace := ["slices.overlaps[int]", "internal/bytealg.Compare"], unfollowed := true, recurses := true, plainKeys := false, apart := false }
def BridgeForgetsSaid : Prop := bridgeForgetsRow.holds Try.pinned (OpenSpec.ofChange bridgeForgetsSpec)

/-- ITS FALSE NEIGHBOUR: 'it returns false'. Refute it at one input. -/
def bridgeForgetsWrong : ChangeSpec := { name := "bridgeForgets", fn := fun _ => fun
  | [d1, d2, d3, d4, d5] => { results := [.lit (.bool false)], args := [d1, d2, d3, d4, d5] }
  | _ => none }
def BridgeForgetsWrongFalsely : Prop := bridgeForgetsRow.holds Try.pinned (OpenSpec.ofChange bridgeForgetsWrong)

/-- 'underpasslaw16.BridgeAgain': WHATEVER THE INPUT: true; the input reads as it did. -/
def bridgeAgainSpec : ChangeSpec := { name := "bridgeAgain", fn := fun _ => fun
  | [d1, d2, d3] => { results := [.lit (.bool true)], args := [d1, d2, d3] }
  | _ => none }
def bridgeAgainRow : OpenClaim := { program := "ytmhfpiincnadiaa", sum := "f9e3c9337d2fc14cb7ba5b892877db666bb24a5e2906fefc3d7172e4a0f7e7e2", func := "underpass/underpasslaw16.BridgeAgain", spec := "bridgeAgain", inPlace := ["slices.overlaps[int]", "internal/bytealg.Compare"], unfollowed := true, recurses := true, plainKeys := false, apart := false }
def BridgeAgainSaid : Prop := bridgeAgainRow.holds Try.pinned (OpenSpec.ofChange bridgeAgainSpec)

/-- ITS FALSE NEIGHBOUR: 'it returns false'. Refute it at one input. -/
def bridgeAgainWrong : ChangeSpec := { name := "bridgeAgain", fn := fun _ => fun
  | [d1, d2, d3] => { results := [.lit (.bool false)], args := [d1, d2, d3] }
  | _ => none }
def BridgeAgainWrongFalsely : Prop := bridgeAgainRow.holds Try.pinned (OpenSpec.ofChange bridgeAgainWrong)

/- THE SECOND FORM. 'bulk': how many values and letters a reading holds, each counted each time it is reached (what is shared counts as often as it is met; a slice's spare places count too). A statement '..UptoSaid' is the law's where the arguments, and the package variables that the reading takes, are together of bulk at most 1048576: NARROWER than '..Said'. Prove '..Said' where nothing that the law and all that it calls make is longer than what came in: it says more and counts as full. Else prove '..UptoSaid'. A law counts once. -/
mutual
def uptoBulk {H : Type} : DataW H → Nat
  | .lit (.string bytes) => bytes.length + 1
  | .lit _ => 1
  | .nil => 1
  | .ptr d => uptoBulk d + 1
  | .slice elems spare => uptoBulkAll elems + uptoBulkAll spare + 1
  | .agg parts => uptoBulkAll parts + 1
  | .iface _ d => uptoBulk d + 1
  | .map entries => uptoBulkEntries entries + 1
  | .held _ => 1
def uptoBulkAll {H : Type} : List (DataW H) → Nat
  | [] => 0
  | d :: r => uptoBulk d + uptoBulkAll r
def uptoBulkEntries {H : Type} : List (Lit × DataW H) → Nat
  | [] => 0
  | x :: r => uptoBulkEntry x + uptoBulkEntries r
def uptoBulkEntry {H : Type} : Lit × DataW H → Nat
  | (.string bytes, d) => bytes.length + uptoBulk d + 1
  | (_, d) => uptoBulk d + 1
 end
def uptoSmall : (H : Type) → List (DataW H) → Bool := fun _ ds => decide (uptoBulkAll ds ≤ 1048576)
def OpenSpec.upto (s : _root_.Go.ChangeSpec) : _root_.Go.OpenSpec := { _root_.Go.OpenSpec.ofChange s with cond := some uptoSmall }

/-- 'underpasslaw14.TunnelOwn', WHERE WHAT IT READS IS OF BULK AT MOST 1048576: true; the input reads as it did. -/
def tunnelOwnUptoRow : OpenClaim := { program := "ytmhfpiincnadiaa", sum := "f9e3c9337d2fc14cb7ba5b892877db666bb24a5e2906fefc3d7172e4a0f7e7e2", func := "underpass/underpasslaw14.TunnelOwn", spec := "tunnelOwn", inPlace := ["internal/reflectlite.TypeOf"], unfollowed := true, recurses := true, plainKeys := false, apart := false, narrowed := true }
def TunnelOwnUptoSaid : Prop := tunnelOwnUptoRow.holds Try.pinned (OpenSpec.upto tunnelOwnSpec)

/-- 'underpasslaw16.BridgeRefuses', WHERE WHAT IT READS IS OF BULK AT MOST 1048576: true; the input reads as it did. -/
def bridgeRefusesUptoRow : OpenClaim := { program := "ytmhfpiincnadiaa", sum := "f9e3c9337d2fc14cb7ba5b892877db666bb24a5e2906fefc3d7172e4a0f7e7e2", func := "underpass/underpasslaw16.BridgeRefuses", spec := "bridgeRefuses", inPlace := ["slices.overlaps[int]", "internal/bytealg.Compare"], unfollowed := true, recurses := true, plainKeys := false, apart := false, narrowed := true }
def BridgeRefusesUptoSaid : Prop := bridgeRefusesUptoRow.holds Try.pinned (OpenSpec.upto bridgeRefusesSpec)

/-- 'underpasslaw16.BridgeForgets', WHERE WHAT IT READS IS OF BULK AT MOST 1048576: true; the input reads as it did. -/
def bridgeForgetsUptoRow : OpenClaim := { program := "ytmhfpiincnadiaa", sum := "f9e3c9337d2fc14cb7ba5b892877db666bb24a5e2906fefc3d7172e4a0f7e7e2", func := "underpass/underpasslaw16.BridgeForgets", spec := "bridgeForgets", inPlace := ["slices.overlaps[int]", "internal/bytealg.Compare"], unfollowed := true, recurses := true, plainKeys := false, apart := false, narrowed := true }
def BridgeForgetsUptoSaid : Prop := bridgeForgetsUptoRow.holds Try.pinned (OpenSpec.upto bridgeForgetsSpec)

/-- 'underpasslaw16.BridgeAgain', WHERE WHAT IT READS IS OF BULK AT MOST 1048576: true; the input reads as it did. -/
def bridgeAgainUptoRow : OpenClaim := { program := "ytmhfpiincnadiaa", sum := "f9e3c9337d2fc14cb7ba5b892877db666bb24a5e2906fefc3d7172e4a0f7e7e2", func := "underpass/underpasslaw16.BridgeAgain", spec := "bridgeAgain", inPlace := ["slices.overlaps[int]", "internal/bytealg.Compare"], unfollowed := true, recurses := true, plainKeys := false, apart := false, narrowed := true }
def BridgeAgainUptoSaid : Prop := bridgeAgainUptoRow.holds Try.pinned (OpenSpec.upto bridgeAgainSpec)

end Rows
end Go.Proofs.Ytmhfpiincnadiaa
