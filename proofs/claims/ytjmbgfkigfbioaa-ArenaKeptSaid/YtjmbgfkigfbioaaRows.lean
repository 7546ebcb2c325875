/-
  No cell of these rows narrows 'for every input' (looked for: loops, veiled, ifaces, maps, wideKeys, modest, calm, conditions, laid).
  DERIVED. THE GIVEN ROWS OF THIS SEAT. 8 by the template 'for every input the law returns true; each argument reads behind the call as it read before'; 0 by the template 'total and deterministic' (their statements: YtjmbgfkigfbioaaTotals.lean).
  GIVEN WITH THE SEED: the statements are not yours to turn. If you find one false, say at which input.
  Laid BY PROGRAM, IN A SANDBOX (cutbox-rows.mjs): the forced cells as the released guide's own fill.sh prints them over the translation fe93c178a8285882… (all of the seat's roots in one cut). By AI agents, Wed Nov 11 2026. No macro, syntax, notation, axiom, sorry.
-/
import Derived.Test.YtjmbgfkigfbioaaChecked
import GoSem.Claim
import GoSem.ClaimJoined
import GoSem.ClaimMapViews
import Derived.JoinedTies
import Derived.KernelRfl
namespace Go.Proofs.Ytjmbgfkigfbioaa
/- THE CELL 'sum', in the pinned program and in every row, IS THE sha256 OF THE DUMP (.gsa) THAT YtjmbgfkigfbioaaProg.lean LOADS. Nothing in Lean hashes anything: it is a label: what it is worth is what the hold of that sum in a sandbox is worth. -/
noncomputable def Try.pinned : Pinned := { name := "ytjmbgfkigfbioaa", sum := "fe93c178a82858820917e8b2b60638ce6c98288310c595454da3dcf8a8a0c66c", checked := Try.checked }
namespace Rows
def none {H : Type} : Left H := { results := [], args := [] }

/-- 'keellaw2.ArenaRuns': WHATEVER THE INPUT: true; the input reads as it did. -/
def arenaRunsSpec : ChangeSpec := { name := "arenaRuns", fn := fun _ => fun
  | [] => { results := [.lit (.bool true)], args := [] }
  | _ => none }
def arenaRunsRow : OpenClaim := { program := "ytjmbgfkigfbioaa", sum := "fe93c178a82858820917e8b2b60638ce6c98288310c595454da3dcf8a8a0c66c", func := "keel/keellaw2.ArenaRuns", spec := "arenaRuns", apart := false }
def ArenaRunsSaid : Prop := arenaRunsRow.holds Try.pinned (OpenSpec.ofChange arenaRunsSpec)

/-- ITS FALSE NEIGHBOUR: 'it returns false'. Refute it at one input. -/
def arenaRunsWrong : ChangeSpec := { name := "arenaRuns", fn := fun _ => fun
  | [] => { results := [.lit (.bool false)], args := [] }
  | _ => none }
def ArenaRunsWrongFalsely : Prop := arenaRunsRow.holds Try.pinned (OpenSpec.ofChange arenaRunsWrong)

/-- 'keellaw2.ArenaApart': WHATEVER THE INPUT: true; the input reads as it did. -/
def arenaApartSpec : ChangeSpec := { name := "arenaApart", fn := fun _ => fun
  | [d1, d2, d3, d4] => { results := [.lit (.bool true)], args := [d1, d2, d3, d4] }
  | _ => none }
def arenaApartRow : OpenClaim := { program := "ytjmbgfkigfbioaa", sum := "fe93c178a82858820917e8b2b60638ce6c98288310c595454da3dcf8a8a0c66c", func := "keel/keellaw2.ArenaApart", spec := "arenaApart", apart := false }
def ArenaApartSaid : Prop := arenaApartRow.holds Try.pinned (OpenSpec.ofChange arenaApartSpec)

/-- ITS FALSE NEIGHBOUR: 'it returns false'. Refute it at one input. -/
def arenaApartWrong : ChangeSpec := { name := "arenaApart", fn := fun _ => fun
  | [d1, d2, d3, d4] => { results := [.lit (.bool false)], args := [d1, d2, d3, d4] }
  | _ => none }
def ArenaApartWrongFalsely : Prop := arenaApartRow.holds Try.pinned (OpenSpec.ofChange arenaApartWrong)

/-- 'keellaw2.ArenaKept': WHATEVER THE INPUT: true; the input reads as it did. -/
def arenaKeptSpec : ChangeSpec := { name := "arenaKept", fn := fun _ => fun
  | [d1, d2] => { results := [.lit (.bool true)], args := [d1, d2] }
  | _ => none }
def arenaKeptRow : OpenClaim := { program := "ytjmbgfkigfbioaa", sum := "fe93c178a82858820917e8b2b60638ce6c98288310c595454da3dcf8a8a0c66c", func := "keel/keellaw2.ArenaKept", spec := "arenaKept", unfollowed := true, recurses := true, apart := false }
def ArenaKeptSaid : Prop := arenaKeptRow.holds Try.pinned (OpenSpec.ofChange arenaKeptSpec)

/-- ITS FALSE NEIGHBOUR: 'it returns false'. Refute it at one input. -/
def arenaKeptWrong : ChangeSpec := { name := "arenaKept", fn := fun _ => fun
  | [d1, d2] => { results := [.lit (.bool false)], args := [d1, d2] }
  | _ => none }
def ArenaKeptWrongFalsely : Prop := arenaKeptRow.holds Try.pinned (OpenSpec.ofChange arenaKeptWrong)

/-- 'keellaw2.ArenaLimits': WHATEVER THE INPUT: true; the input reads as it did. -/
def arenaLimitsSpec : ChangeSpec := { name := "arenaLimits", fn := fun _ => fun
  | [d] => { results := [.lit (.bool true)], args := [d] }
  | _ => none }
def arenaLimitsRow : OpenClaim := { program := "ytjmbgfkigfbioaa", sum := "fe93c178a82858820917e8b2b60638ce6c98288310c595454da3dcf8a8a0c66c", func := "keel/keellaw2.ArenaLimits", spec := "arenaLimits", apart := false }
def ArenaLimitsSaid : Prop := arenaLimitsRow.holds Try.pinned (OpenSpec.ofChange arenaLimitsSpec)

/-- ITS FALSE NEIGHBOUR: 'it returns false'. Refute it at one input. -/
def arenaLimitsWrong : ChangeSpec := { name := "arenaLimits", fn := fun _ => fun
  | [d] => { results := [.lit (.bool false)], args := [d] }
  | _ => none }
def ArenaLimitsWrongFalsely : Prop := arenaLimitsRow.holds Try.pinned (OpenSpec.ofChange arenaLimitsWrong)

/-- 'keellaw2.ArenaTwo': WHATEVER THE INPUT: true; the input reads as it did. -/
def arenaTwoSpec : ChangeSpec := { name := "arenaTwo", fn := fun _ => fun
  | [d1, d2, d3] => { results := [.lit (.bool true)], args := [d1, d2, d3] }
  | _ => none }
def arenaTwoRow : OpenClaim := { program := "ytjmbgfkigfbioaa", sum := "fe93c178a82858820917e8b2b60638ce6c98288310c595454da3dcf8a8a0c66c", func := "keel/keellaw2.ArenaTwo", spec := "arenaTwo", apart := false }
def ArenaTwoSaid : Prop := arenaTwoRow.holds Try.pinned (OpenSpec.ofChange arenaTwoSpec)

/-- ITS FALSE NEIGHBOUR: 'it returns false'. Refute it at one input. -/
def arenaTwoWrong : ChangeSpec := { name := "arenaTwo", fn := fun _ => fun
  | [d1, d2, d3] => { results := [.lit (.bool false)], args := [d1, d2, d3] }
  | _ => none }
def ArenaTwoWrongFalsely : Prop := arenaTwoRow.holds Try.pinned (OpenSpec.ofChange arenaTwoWrong)

/-- 'keellaw2.ArenaOrder': WHATEVER THE INPUT: true; the input reads as it did. -/
def arenaOrderSpec : ChangeSpec := { name := "arenaOrder", fn := fun _ => fun
  | [d1, d2, d3, d4] => { results := [.lit (.bool true)], args := [d1, d2, d3, d4] }
  | _ => none }
def arenaOrderRow : OpenClaim := { program := "ytjmbgfkigfbioaa", sum := "fe93c178a82858820917e8b2b60638ce6c98288310c595454da3dcf8a8a0c66c", func := "keel/keellaw2.ArenaOrder", spec := "arenaOrder", apart := false }
def ArenaOrderSaid : Prop := arenaOrderRow.holds Try.pinned (OpenSpec.ofChange arenaOrderSpec)

/-- ITS FALSE NEIGHBOUR: 'it returns false'. Refute it at one input. -/
def arenaOrderWrong : ChangeSpec := { name := "arenaOrder", fn := fun _ => fun
  | [d1, d2, d3, d4] => { results := [.lit (.bool false)], args := [d1, d2, d3, d4] }
  | _ => none }
def ArenaOrderWrongFalsely : Prop := arenaOrderRow.holds Try.pinned (OpenSpec.ofChange arenaOrderWrong)

/-- 'keellaw2.ArenaBack': WHATEVER THE INPUT: true; the input reads as it did. -/
def arenaBackSpec : ChangeSpec := { name := "arenaBack", fn := fun _ => fun
  | [d1, d2, d3, d4] => { results := [.lit (.bool true)], args := [d1, d2, d3, d4] }
  | _ => none }
def arenaBackRow : OpenClaim := { program := "ytjmbgfkigfbioaa", sum := "fe93c178a82858820917e8b2b60638ce6c98288310c595454da3dcf8a8a0c66c", func := "keel/keellaw2.ArenaBack", spec := "arenaBack", apart := false }
def ArenaBackSaid : Prop := arenaBackRow.holds Try.pinned (OpenSpec.ofChange arenaBackSpec)

/-- ITS FALSE NEIGHBOUR: 'it returns false'. Refute it at one input. -/
def arenaBackWrong : ChangeSpec := { name := "arenaBack", fn := fun _ => fun
  | [d1, d2, d3, d4] => { results := [.lit (.bool false)], args := [d1, d2, d3, d4] }
  | _ => none }
def ArenaBackWrongFalsely : Prop := arenaBackRow.holds Try.pinned (OpenSpec.ofChange arenaBackWrong)

/-- 'keellaw2.ArenaPlays': WHATEVER THE INPUT: true; the input reads as it did. -/
def arenaPlaysSpec : ChangeSpec := { name := "arenaPlays", fn := fun _ => fun
  | [d1, d2] => { results := [.lit (.bool true)], args := [d1, d2] }
  | _ => none }
def arenaPlaysRow : OpenClaim := { program := "ytjmbgfkigfbioaa", sum := "fe93c178a82858820917e8b2b60638ce6c98288310c595454da3dcf8a8a0c66c", func := "keel/keellaw2.ArenaPlays", spec := "arenaPlays", apart := false }
def ArenaPlaysSaid : Prop := arenaPlaysRow.holds Try.pinned (OpenSpec.ofChange arenaPlaysSpec)

/-- ITS FALSE NEIGHBOUR: 'it returns false'. Refute it at one input. -/
def arenaPlaysWrong : ChangeSpec := { name := "arenaPlays", fn := fun _ => fun
  | [d1, d2] => { results := [.lit (.bool false)], args := [d1, d2] }
  | _ => none }
def ArenaPlaysWrongFalsely : Prop := arenaPlaysRow.holds Try.pinned (OpenSpec.ofChange arenaPlaysWrong)

/- THE SECOND FORM. 'bulk': how many values and letters a reading holds, each counted each time it is reached (what is shared counts as often as it is met; a slice's spare places count too). A statement '..UptoSaid' is the law's where the arguments, and the package variables that the reading takes, are together of bulk at most 1048576: NARROWER than '..Said'. Prove '..Said' where nothing that the law and all that it calls make is longer than what came in: it says more and counts as full. Else prove '..UptoSaid'. A law counts once. -/
mutual
def uptoBulk {H : Type} : DataW H → Nat
  | .lit (.string bytes) => bytes.length + 1
  | .lit _ => 1
  | .nil => 1
  | .ptr d => uptoBulk d + 1
  | .slice elems spare => uptoBulkAll elems + uptoBulkAll spare + 1
  | .agg parts => uptoBulkAll parts + 1
  | .iface _ d => uptoBulk d + 1
  | .map entries => uptoBulkEntries entries + 1
  | .held _ => 1
def uptoBulkAll {H : Type} : List (DataW H) → Nat
  | [] => 0
  | d :: r => uptoBulk d + uptoBulkAll r
def uptoBulkEntries {H : Type} : List (Lit × DataW H) → Nat
  | [] => 0
  | x :: r => uptoBulkEntry x + uptoBulkEntries r
def uptoBulkEntry {H : Type} : Lit × DataW H → Nat
  | (.string bytes, d) => bytes.length + uptoBulk d + 1
  | (_, d) => uptoBulk d + 1
 end
def uptoSmall : (H : Type) → List (DataW H) → Bool := fun _ ds => decide (uptoBulkAll ds ≤ 1048576)
def OpenSpec.upto (s : _root_.Go.ChangeSpec) : _root_.Go.OpenSpec := { _root_.Go.OpenSpec.ofChange s with cond := some uptoSmall }

/-- 'keellaw2.ArenaRuns', WHERE WHAT IT READS IS OF BULK AT MOST 1048576: true; the input reads as it did. -/
def arenaRunsUptoRow : OpenClaim := { program := "ytjmbgfkigfbioaa", sum := "fe93c178a82858820917e8b2b60638ce6c98288310c595454da3dcf8a8a0c66c", func := "keel/keellaw2.ArenaRuns", spec := "arenaRuns", apart := false, narrowed := true }
def ArenaRunsUptoSaid : Prop := arenaRunsUptoRow.holds Try.pinned (OpenSpec.upto arenaRunsSpec)

/-- 'keellaw2.ArenaApart', WHERE WHAT IT READS IS OF BULK AT MOST 1048576: true; the input reads as it did. -/
def arenaApartUptoRow : OpenClaim := { program := "ytjmbgfkigfbioaa", sum := "fe93c178a82858820917e8b2b60638ce6c98288310c595454da3dcf8a8a0c66c", func := "keel/keellaw2.ArenaApart", spec := "arenaApart", apart := false, narrowed := true }
def ArenaApartUptoSaid : Prop := arenaApartUptoRow.holds Try.pinned (OpenSpec.upto arenaApartSpec)

/-- 'keellaw2.ArenaKept', WHERE WHAT IT READS IS OF BULK AT MOST 1048576: true; the input reads as it did. -/
def arenaKeptUptoRow : OpenClaim := { program := "ytjmbgfkigfbioaa", sum := "fe93c178a82858820917e8b2b60638ce6c98288310c595454da3dcf8a8a0c66c", func := "keel/keellaw2.ArenaKept", spec := "arenaKept", unfollowed := true, recurses := true, apart := false, narrowed := true }
def ArenaKeptUptoSaid : Prop := arenaKeptUptoRow.holds Try.pinned (OpenSpec.upto arenaKeptSpec)

/-- 'keellaw2.ArenaLimits', WHERE WHAT IT READS IS OF BULK AT MOST 1048576: true; the input reads as it did. -/
def arenaLimitsUptoRow : OpenClaim := { program := "ytjmbgfkigfbioaa", sum := "fe93c178a82858820917e8b2b60638ce6c98288310c595454da3dcf8a8a0c66c", func := "keel/keellaw2.ArenaLimits", spec := "arenaLimits", apart := false, narrowed := true }
def ArenaLimitsUptoSaid : Prop := arenaLimitsUptoRow.holds Try.pinned (OpenSpec.upto arenaLimitsSpec)

/-- 'keellaw2.ArenaTwo', WHERE WHAT IT READS IS OF BULK AT MOST 1048576: true; the input reads as it did. -/
def arenaTwoUptoRow : OpenClaim := { program := "ytjmbgfkigfbioaa", sum := "fe93c178a82858820917e8b2b60638ce6c98288310c595454da3dcf8a8a0c66c", func := "keel/keellaw2.ArenaTwo", spec := "arenaTwo", apart := false, narrowed := true }
def ArenaTwoUptoSaid : Prop := arenaTwoUptoRow.holds Try.pinned (OpenSpec.upto arenaTwoSpec)

/-- 'keellaw2.ArenaOrder', WHERE WHAT IT READS IS OF BULK AT MOST 1048576: true; the input reads as it did. -/
def arenaOrderUptoRow : OpenClaim := { program := "ytjmbgfkigfbioaa", sum := "fe93c178a82858820917e8b2b60638ce6c98288310c595454da3dcf8a8a0c66c", func := "keel/keellaw2.ArenaOrder", spec := "arenaOrder", apart := false, narrowed := true }
def ArenaOrderUptoSaid : Prop := arenaOrderUptoRow.holds Try.pinned (OpenSpec.upto arenaOrderSpec)

/-- 'keellaw2.ArenaBack', WHERE WHAT IT READS IS OF BULK AT MOST 1048576: true; the input reads as it did. -/
def arenaBackUptoRow : OpenClaim := { program := "ytjmbgfkigfbioaa", sum := "fe93c178a82858820917e8b2b60638ce6c98288310c595454da3dcf8a8a0c66c", func := "keel/keellaw2.ArenaBack", spec := "arenaBack", apart := false, narrowed := true }
def ArenaBackUptoSaid : Prop := arenaBackUptoRow.holds Try.pinned (OpenSpec.upto arenaBackSpec)

/-- 'keellaw2.ArenaPlays', WHERE WHAT IT READS IS OF BULK AT MOST 1048576: true; the input reads as it did. -/
def arenaPlaysUptoRow : OpenClaim := { program := "ytjmbgfkigfbioaa", sum := "fe93c178a82858820917e8b2b60638ce6c98288310c595454da3dcf8a8a0c66c", func := "keel/keellaw2.ArenaPlays", spec := "arenaPlays", apart := false, narrowed := true }
def ArenaPlaysUptoSaid : Prop := arenaPlaysUptoRow.holds Try.pinned (OpenSpec.upto arenaPlaysSpec)

end Rows
end Go.Proofs.Ytjmbgfkigfbioaa
