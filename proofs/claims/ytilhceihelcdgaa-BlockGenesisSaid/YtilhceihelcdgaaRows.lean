/-
  No cell of these rows narrows 'for every input' (looked for: loops, veiled, ifaces, maps, wideKeys, modest, calm, conditions, laid).
  DERIVED. THE GIVEN ROWS OF THIS SEAT. 17 by the template 'for every input the law returns true; each argument reads behind the call as it read before'; 0 by the template 'total and deterministic' (their statements: YtilhceihelcdgaaTotals.lean).
  GIVEN WITH THE SEED: the statements are not yours to turn. If you find one false, say at which input.
  Laid BY PROGRAM, IN A SANDBOX (cutbox-rows.mjs): the forced cells as the released guide's own fill.sh prints them over the translation 4a8c11c831df9111… (all of the seat's roots in one cut). By AI agents, Wed Nov 11 2026. No macro, syntax, notation, axiom, sorry.
-/
import Derived.Test.YtilhceihelcdgaaChecked
import GoSem.Claim
import GoSem.ClaimJoined
import GoSem.ClaimMapViews
import Derived.JoinedTies
import Derived.KernelRfl
namespace Go.Proofs.Ytilhceihelcdgaa
/- THE CELL 'sum', in the pinned program and in every row, IS THE sha256 OF THE DUMP (.gsa) THAT YtilhceihelcdgaaProg.lean LOADS. Nothing in Lean hashes anything: it is a label: what it is worth is what the hold of that sum in a sandbox is worth. -/
noncomputable def Try.pinned : Pinned := { name := "ytilhceihelcdgaa", sum := "4a8c11c831df91115dbcae1746616a52ff0e6fb311b08f40fcc7110d48dc34a0", checked := Try.checked }
namespace Rows
def none {H : Type} : Left H := { results := [], args := [] }

/-- 'forkledgerlaw5.ManytimeSizes': WHATEVER THE INPUT: true; the input reads as it did. -/
def manytimeSizesSpec : ChangeSpec := { name := "manytimeSizes", fn := fun _ => fun
  | [d1, d2] => { results := [.lit (.bool true)], args := [d1, d2] }
  | _ => none }
def manytimeSizesRow : OpenClaim := { program := "ytilhceihelcdgaa", sum := "4a8c11c831df91115dbcae1746616a52ff0e6fb311b08f40fcc7110d48dc34a0", func := "forkledger/forkledgerlaw5.ManytimeSizes", spec := "manytimeSizes", plainKeys := false, apart := false }
def ManytimeSizesSaid : Prop := manytimeSizesRow.holds Try.pinned (OpenSpec.ofChange manytimeSizesSpec)

/-- ITS FALSE NEIGHBOUR: 'it returns false'. Refute it at one input. -/
def manytimeSizesWrong : ChangeSpec := { name := "manytimeSizes", fn := fun _ => fun
  | [d1, d2] => { results := [.lit (.bool false)], args := [d1, d2] }
  | _ => none }
def ManytimeSizesWrongFalsely : Prop := manytimeSizesRow.holds Try.pinned (OpenSpec.ofChange manytimeSizesWrong)

/-- 'forkledgerlaw5.ManytimeVerifies': WHATEVER THE INPUT: true; the input reads as it did. -/
def manytimeVerifiesSpec : ChangeSpec := { name := "manytimeVerifies", fn := fun _ => fun
  | [d1, d2, d3, d4, d5, d6, d7, d8] => { results := [.lit (.bool true)], args := [d1, d2, d3, d4, d5, d6, d7, d8] }
  | _ => none }
def manytimeVerifiesRow : OpenClaim := { program := "ytilhceihelcdgaa", sum := "4a8c11c831df91115dbcae1746616a52ff0e6fb311b08f40fcc7110d48dc34a0", func := "forkledger/forkledgerlaw5.ManytimeVerifies", spec := "manytimeVerifies", recurses := true, plainKeys := false, apart := false }
def ManytimeVerifiesSaid : Prop := manytimeVerifiesRow.holds Try.pinned (OpenSpec.ofChange manytimeVerifiesSpec)

/-- ITS FALSE NEIGHBOUR: 'it returns false'. Refute it at one input. -/
def manytimeVerifiesWrong : ChangeSpec := { name := "manytimeVerifies", fn := fun _ => fun
  | [d1, d2, d3, d4, d5, d6, d7, d8] => { results := [.lit (.bool false)], args := [d1, d2, d3, d4, d5, d6, d7, d8] }
  | _ => none }
def ManytimeVerifiesWrongFalsely : Prop := manytimeVerifiesRow.holds Try.pinned (OpenSpec.ofChange manytimeVerifiesWrong)

/-- 'forkledgerlaw5.ManytimeSigns': WHATEVER THE INPUT: true; the input reads as it did. -/
def manytimeSignsSpec : ChangeSpec := { name := "manytimeSigns", fn := fun _ => fun
  | [d1, d2, d3, d4] => { results := [.lit (.bool true)], args := [d1, d2, d3, d4] }
  | _ => none }
def manytimeSignsRow : OpenClaim := { program := "ytilhceihelcdgaa", sum := "4a8c11c831df91115dbcae1746616a52ff0e6fb311b08f40fcc7110d48dc34a0", func := "forkledger/forkledgerlaw5.ManytimeSigns", spec := "manytimeSigns", recurses := true, plainKeys := false, apart := false }
def ManytimeSignsSaid : Prop := manytimeSignsRow.holds Try.pinned (OpenSpec.ofChange manytimeSignsSpec)

/-- ITS FALSE NEIGHBOUR: 'it returns false'. Refute it at one input. -/
def manytimeSignsWrong : ChangeSpec := { name := "manytimeSigns", fn := fun _ => fun
  | [d1, d2, d3, d4] => { results := [.lit (.bool false)], args := [d1, d2, d3, d4] }
  | _ => none }
def ManytimeSignsWrongFalsely : Prop := manytimeSignsRow.holds Try.pinned (OpenSpec.ofChange manytimeSignsWrong)

/-- 'forkledgerlaw5.ManytimeKeys': WHATEVER THE INPUT: true; the input reads as it did. -/
def manytimeKeysSpec : ChangeSpec := { name := "manytimeKeys", fn := fun _ => fun
  | [d1, d2, d3, d4] => { results := [.lit (.bool true)], args := [d1, d2, d3, d4] }
  | _ => none }
def manytimeKeysRow : OpenClaim := { program := "ytilhceihelcdgaa", sum := "4a8c11c831df91115dbcae1746616a52ff0e6fb311b08f40fcc7110d48dc34a0", func := "forkledger/forkledgerlaw5.ManytimeKeys", spec := "manytimeKeys", recurses := true, plainKeys := false, apart := false }
def ManytimeKeysSaid : Prop := manytimeKeysRow.holds Try.pinned (OpenSpec.ofChange manytimeKeysSpec)

/-- ITS FALSE NEIGHBOUR: 'it returns false'. Refute it at one input. -/
def manytimeKeysWrong : ChangeSpec := { name := "manytimeKeys", fn := fun _ => fun
  | [d1, d2, d3, d4] => { results := [.lit (.bool false)], args := [d1, d2, d3, d4] }
  | _ => none }
def ManytimeKeysWrongFalsely : Prop := manytimeKeysRow.holds Try.pinned (OpenSpec.ofChange manytimeKeysWrong)

/-- 'forkledgerlaw5.ManytimeAccepts': WHATEVER THE INPUT: true; the input reads as it did. -/
def manytimeAcceptsSpec : ChangeSpec := { name := "manytimeAccepts", fn := fun _ => fun
  | [d1, d2, d3, d4] => { results := [.lit (.bool true)], args := [d1, d2, d3, d4] }
  | _ => none }
def manytimeAcceptsRow : OpenClaim := { program := "ytilhceihelcdgaa", sum := "4a8c11c831df91115dbcae1746616a52ff0e6fb311b08f40fcc7110d48dc34a0", func := "forkledger/forkledgerlaw5.ManytimeAccepts", spec := "manytimeAccepts", recurses := true, plainKeys := false, apart := false }
def ManytimeAcceptsSaid : Prop := manytimeAcceptsRow.holds Try.pinned (OpenSpec.ofChange manytimeAcceptsSpec)

/-- ITS FALSE NEIGHBOUR: 'it returns false'. Refute it at one input. -/
def manytimeAcceptsWrong : ChangeSpec := { name := "manytimeAccepts", fn := fun _ => fun
  | [d1, d2, d3, d4] => { results := [.lit (.bool false)], args := [d1, d2, d3, d4] }
  | _ => none }
def ManytimeAcceptsWrongFalsely : Prop := manytimeAcceptsRow.holds Try.pinned (OpenSpec.ofChange manytimeAcceptsWrong)

/-- 'forkledgerlaw5.ManytimeApart': WHATEVER THE INPUT: true; the input reads as it did. -/
def manytimeApartSpec : ChangeSpec := { name := "manytimeApart", fn := fun _ => fun
  | [d1, d2, d3, d4] => { results := [.lit (.bool true)], args := [d1, d2, d3, d4] }
  | _ => none }
def manytimeApartRow : OpenClaim := { program := "ytilhceihelcdgaa", sum := "4a8c11c831df91115dbcae1746616a52ff0e6fb311b08f40fcc7110d48dc34a0", func := "forkledger/forkledgerlaw5.ManytimeApart", spec := "manytimeApart", recurses := true, plainKeys := false, apart := false }
def ManytimeApartSaid : Prop := manytimeApartRow.holds Try.pinned (OpenSpec.ofChange manytimeApartSpec)

/-- ITS FALSE NEIGHBOUR: 'it returns false'. Refute it at one input. -/
def manytimeApartWrong : ChangeSpec := { name := "manytimeApart", fn := fun _ => fun
  | [d1, d2, d3, d4] => { results := [.lit (.bool false)], args := [d1, d2, d3, d4] }
  | _ => none }
def ManytimeApartWrongFalsely : Prop := manytimeApartRow.holds Try.pinned (OpenSpec.ofChange manytimeApartWrong)

/-- 'forkledgerlaw24.BlockNames': WHATEVER THE INPUT: true; the input reads as it did. -/
def blockNamesSpec : ChangeSpec := { name := "blockNames", fn := fun _ => fun
  | [d] => { results := [.lit (.bool true)], args := [d] }
  | _ => none }
def blockNamesRow : OpenClaim := { program := "ytilhceihelcdgaa", sum := "4a8c11c831df91115dbcae1746616a52ff0e6fb311b08f40fcc7110d48dc34a0", func := "forkledger/forkledgerlaw24.BlockNames", spec := "blockNames", unfollowed := true, recurses := true, plainKeys := false, apart := false }
def BlockNamesSaid : Prop := blockNamesRow.holds Try.pinned (OpenSpec.ofChange blockNamesSpec)

/-- ITS FALSE NEIGHBOUR: 'it returns false'. Refute it at one input. -/
def blockNamesWrong : ChangeSpec := { name := "blockNames", fn := fun _ => fun
  | [d] => { results := [.lit (.bool false)], args := [d] }
  | _ => none }
def BlockNamesWrongFalsely : Prop := blockNamesRow.holds Try.pinned (OpenSpec.ofChange blockNamesWrong)

/-- 'forkledgerlaw24.BlockPayload': WHATEVER THE INPUT: true; the input reads as it did. -/
def blockPayloadSpec : ChangeSpec := { name := "blockPayload", fn := fun _ => fun
  | [d] => { results := [.lit (.bool true)], args := [d] }
  | _ => none }
def blockPayloadRow : OpenClaim := { program := "ytilhceihelcdgaa", sum := "4a8c11c831df91115dbcae1746616a52ff0e6fb311b08f40fcc7110d48dc34a0", func := "forkledger/forkledgerlaw24.BlockPayload", spec := "blockPayload", unfollowed := true, recurses := true, plainKeys := false, apart := false }
def BlockPayloadSaid : Prop := blockPayloadRow.holds Try.pinned (OpenSpec.ofChange blockPayloadSpec)

/-- ITS FALSE NEIGHBOUR: 'it returns false'. Refute it at one input. -/
def blockPayloadWrong : ChangeSpec := { name := "blockPayload", fn := fun _ => fun
  | [d] => { results := [.lit (.bool false)], args := [d] }
  | _ => none }
def BlockPayloadWrongFalsely : Prop := blockPayloadRow.holds Try.pinned (OpenSpec.ofChange blockPayloadWrong)

/-- 'forkledgerlaw24.BlockBlock': WHATEVER THE INPUT: true; the input reads as it did. -/
def blockBlockSpec : ChangeSpec := { name := "blockBlock", fn := fun _ => fun
  | [d] => { results := [.lit (.bool true)], args := [d] }
  | _ => none }
def blockBlockRow : OpenClaim := { program := "ytilhceihelcdgaa", sum := "4a8c11c831df91115dbcae1746616a52ff0e6fb311b08f40fcc7110d48dc34a0", func := "forkledger/forkledgerlaw24.BlockBlock", spec := "blockBlock", unfollowed := true, recurses := true, plainKeys := false, apart := false }
def BlockBlockSaid : Prop := blockBlockRow.holds Try.pinned (OpenSpec.ofChange blockBlockSpec)

/-- ITS FALSE NEIGHBOUR: 'it returns false'. Refute it at one input. -/
def blockBlockWrong : ChangeSpec := { name := "blockBlock", fn := fun _ => fun
  | [d] => { results := [.lit (.bool false)], args := [d] }
  | _ => none }
def BlockBlockWrongFalsely : Prop := blockBlockRow.holds Try.pinned (OpenSpec.ofChange blockBlockWrong)

/-- 'forkledgerlaw24.BlockGenesis': WHATEVER THE INPUT: true; the input reads as it did. -/
def blockGenesisSpec : ChangeSpec := { name := "blockGenesis", fn := fun _ => fun
  | [d] => { results := [.lit (.bool true)], args := [d] }
  | _ => none }
def blockGenesisRow : OpenClaim := { program := "ytilhceihelcdgaa", sum := "4a8c11c831df91115dbcae1746616a52ff0e6fb311b08f40fcc7110d48dc34a0", func := "forkledger/forkledgerlaw24.BlockGenesis", spec := "blockGenesis", unfollowed := true, recurses := true, plainKeys := false, apart := false }
def BlockGenesisSaid : Prop := blockGenesisRow.holds Try.pinned (OpenSpec.ofChange blockGenesisSpec)

/-- ITS FALSE NEIGHBOUR: 'it returns false'. Refute it at one input. -/
def blockGenesisWrong : ChangeSpec := { name := "blockGenesis", fn := fun _ => fun
  | [d] => { results := [.lit (.bool false)], args := [d] }
  | _ => none }
def BlockGenesisWrongFalsely : Prop := blockGenesisRow.holds Try.pinned (OpenSpec.ofChange blockGenesisWrong)

/-- 'forkledgerlaw20.TxEncode': WHATEVER THE INPUT: true; the input reads as it did. -/
def txEncodeSpec : ChangeSpec := { name := "txEncode", fn := fun _ => fun
  | [d] => { results := [.lit (.bool true)], args := [d] }
  | _ => none }
def txEncodeRow : OpenClaim := { program := "ytilhceihelcdgaa", sum := "4a8c11c831df91115dbcae1746616a52ff0e6fb311b08f40fcc7110d48dc34a0", func := "forkledger/forkledgerlaw20.TxEncode", spec := "txEncode", unfollowed := true, recurses := true, plainKeys := false, apart := false }
def TxEncodeSaid : Prop := txEncodeRow.holds Try.pinned (OpenSpec.ofChange txEncodeSpec)

/-- ITS FALSE NEIGHBOUR: 'it returns false'. Refute it at one input. -/
def txEncodeWrong : ChangeSpec := { name := "txEncode", fn := fun _ => fun
  | [d] => { results := [.lit (.bool false)], args := [d] }
  | _ => none }
def TxEncodeWrongFalsely : Prop := txEncodeRow.holds Try.pinned (OpenSpec.ofChange txEncodeWrong)

/-- 'forkledgerlaw20.TxDecode': WHATEVER THE INPUT: true; the input reads as it did. -/
def txDecodeSpec : ChangeSpec := { name := "txDecode", fn := fun _ => fun
  | [d] => { results := [.lit (.bool true)], args := [d] }
  | _ => none }
def txDecodeRow : OpenClaim := { program := "ytilhceihelcdgaa", sum := "4a8c11c831df91115dbcae1746616a52ff0e6fb311b08f40fcc7110d48dc34a0", func := "forkledger/forkledgerlaw20.TxDecode", spec := "txDecode", unfollowed := true, recurses := true, plainKeys := false, apart := false }
def TxDecodeSaid : Prop := txDecodeRow.holds Try.pinned (OpenSpec.ofChange txDecodeSpec)

/-- ITS FALSE NEIGHBOUR: 'it returns false'. Refute it at one input. -/
def txDecodeWrong : ChangeSpec := { name := "txDecode", fn := fun _ => fun
  | [d] => { results := [.lit (.bool false)], args := [d] }
  | _ => none }
def TxDecodeWrongFalsely : Prop := txDecodeRow.holds Try.pinned (OpenSpec.ofChange txDecodeWrong)

/-- 'forkledgerlaw20.TxTruncated': WHATEVER THE INPUT: true; the input reads as it did. -/
def txTruncatedSpec : ChangeSpec := { name := "txTruncated", fn := fun _ => fun
  | [d1, d2, d3] => { results := [.lit (.bool true)], args := [d1, d2, d3] }
  | _ => none }
def txTruncatedRow : OpenClaim := { program := "ytilhceihelcdgaa", sum := "4a8c11c831df91115dbcae1746616a52ff0e6fb311b08f40fcc7110d48dc34a0", func := "forkledger/forkledgerlaw20.TxTruncated", spec := "txTruncated", unfollowed := true, recurses := true, plainKeys := false, apart := false }
def TxTruncatedSaid : Prop := txTruncatedRow.holds Try.pinned (OpenSpec.ofChange txTruncatedSpec)

/-- ITS FALSE NEIGHBOUR: 'it returns false'. Refute it at one input. -/
def txTruncatedWrong : ChangeSpec := { name := "txTruncated", fn := fun _ => fun
  | [d1, d2, d3] => { results := [.lit (.bool false)], args := [d1, d2, d3] }
  | _ => none }
def TxTruncatedWrongFalsely : Prop := txTruncatedRow.holds Try.pinned (OpenSpec.ofChange txTruncatedWrong)

/-- 'forkledgerlaw20.TxEqual': WHATEVER THE INPUT: true; the input reads as it did. -/
def txEqualSpec : ChangeSpec := { name := "txEqual", fn := fun _ => fun
  | [d1, d2] => { results := [.lit (.bool true)], args := [d1, d2] }
  | _ => none }
def txEqualRow : OpenClaim := { program := "ytilhceihelcdgaa", sum := "4a8c11c831df91115dbcae1746616a52ff0e6fb311b08f40fcc7110d48dc34a0", func := "forkledger/forkledgerlaw20.TxEqual", spec := "txEqual", unfollowed := true, recurses := true, plainKeys := false, apart := false }
def TxEqualSaid : Prop := txEqualRow.holds Try.pinned (OpenSpec.ofChange txEqualSpec)

/-- ITS FALSE NEIGHBOUR: 'it returns false'. Refute it at one input. -/
def txEqualWrong : ChangeSpec := { name := "txEqual", fn := fun _ => fun
  | [d1, d2] => { results := [.lit (.bool false)], args := [d1, d2] }
  | _ => none }
def TxEqualWrongFalsely : Prop := txEqualRow.holds Try.pinned (OpenSpec.ofChange txEqualWrong)

/-- 'forkledgerlaw20.TxValidate': WHATEVER THE INPUT: true; the input reads as it did. -/
def txValidateSpec : ChangeSpec := { name := "txValidate", fn := fun _ => fun
  | [d1, d2] => { results := [.lit (.bool true)], args := [d1, d2] }
  | _ => none }
def txValidateRow : OpenClaim := { program := "ytilhceihelcdgaa", sum := "4a8c11c831df91115dbcae1746616a52ff0e6fb311b08f40fcc7110d48dc34a0", func := "forkledger/forkledgerlaw20.TxValidate", spec := "txValidate", unfollowed := true, recurses := true, plainKeys := false, apart := false }
def TxValidateSaid : Prop := txValidateRow.holds Try.pinned (OpenSpec.ofChange txValidateSpec)

/-- ITS FALSE NEIGHBOUR: 'it returns false'. Refute it at one input. -/
def txValidateWrong : ChangeSpec := { name := "txValidate", fn := fun _ => fun
  | [d1, d2] => { results := [.lit (.bool false)], args := [d1, d2] }
  | _ => none }
def TxValidateWrongFalsely : Prop := txValidateRow.holds Try.pinned (OpenSpec.ofChange txValidateWrong)

/-- 'forkledgerlaw41.ScriptConfigs': WHATEVER THE INPUT: true; the input reads as it did. -/
def scriptConfigsSpec : ChangeSpec := { name := "scriptConfigs", fn := fun _ => fun
  | [d1, d2] => { results := [.lit (.bool true)], args := [d1, d2] }
  | _ => none }
def scriptConfigsRow : OpenClaim := { program := "ytilhceihelcdgaa", sum := "4a8c11c831df91115dbcae1746616a52ff0e6fb311b08f40fcc7110d48dc34a0", func := "forkledger/forkledgerlaw41.ScriptConfigs", spec := "scriptConfigs", inPlace := ["internal/bytealg.Compare"], unfollowed := true, recurses := true, plainKeys := false, apart := false }
def ScriptConfigsSaid : Prop := scriptConfigsRow.holds Try.pinned (OpenSpec.ofChange scriptConfigsSpec)

/-- ITS FALSE NEIGHBOUR: 'it returns false'. Refute it at one input. -/
def scriptConfigsWrong : ChangeSpec := { name := "scriptConfigs", fn := fun _ => fun
  | [d1, d2] => { results := [.lit (.bool false)], args := [d1, d2] }
  | _ => none }
def ScriptConfigsWrongFalsely : Prop := scriptConfigsRow.holds Try.pinned (OpenSpec.ofChange scriptConfigsWrong)

/-- 'forkledgerlaw41.ScriptEqual': WHATEVER THE INPUT: true; the input reads as it did. -/
def scriptEqualSpec : ChangeSpec := { name := "scriptEqual", fn := fun _ => fun
  | [d1, d2] => { results := [.lit (.bool true)], args := [d1, d2] }
  | _ => none }
def scriptEqualRow : OpenClaim := { program := "ytilhceihelcdgaa", sum := "4a8c11c831df91115dbcae1746616a52ff0e6fb311b08f40fcc7110d48dc34a0", func := "forkledger/forkledgerlaw41.ScriptEqual", spec := "scriptEqual", inPlace := ["internal/bytealg.Compare"], unfollowed := true, recurses := true, plainKeys := false, apart := false }
def ScriptEqualSaid : Prop := scriptEqualRow.holds Try.pinned (OpenSpec.ofChange scriptEqualSpec)

/-- ITS FALSE NEIGHBOUR: 'it returns false'. Refute it at one input. -/
def scriptEqualWrong : ChangeSpec := { name := "scriptEqual", fn := fun _ => fun
  | [d1, d2] => { results := [.lit (.bool false)], args := [d1, d2] }
  | _ => none }
def ScriptEqualWrongFalsely : Prop := scriptEqualRow.holds Try.pinned (OpenSpec.ofChange scriptEqualWrong)

/- THE SECOND FORM. 'bulk': how many values and letters a reading holds, each counted each time it is reached (what is shared counts as often as it is met; a slice's spare places count too). A statement '..UptoSaid' is the law's where the arguments, and the package variables that the reading takes, are together of bulk at most 1048576: NARROWER than '..Said'. Prove '..Said' where nothing that the law and all that it calls make is longer than what came in: it says more and counts as full. Else prove '..UptoSaid'. A law counts once. -/
mutual
def uptoBulk {H : Type} : DataW H → Nat
  | .lit (.string bytes) => bytes.length + 1
  | .lit _ => 1
  | .nil => 1
  | .ptr d => uptoBulk d + 1
  | .slice elems spare => uptoBulkAll elems + uptoBulkAll spare + 1
  | .agg parts => uptoBulkAll parts + 1
  | .iface _ d => uptoBulk d + 1
  | .map entries => uptoBulkEntries entries + 1
  | .held _ => 1
def uptoBulkAll {H : Type} : List (DataW H) → Nat
  | [] => 0
  | d :: r => uptoBulk d + uptoBulkAll r
def uptoBulkEntries {H : Type} : List (Lit × DataW H) → Nat
  | [] => 0
  | x :: r => uptoBulkEntry x + uptoBulkEntries r
def uptoBulkEntry {H : Type} : Lit × DataW H → Nat
  | (.string bytes, d) => bytes.length + uptoBulk d + 1
  | (_, d) => uptoBulk d + 1
 end
def uptoSmall : (H : Type) → List (DataW H) → Bool := fun _ ds => decide (uptoBulkAll ds ≤ 1048576)
def OpenSpec.upto (s : _root_.Go.ChangeSpec) : _root_.Go.OpenSpec := { _root_.Go.OpenSpec.ofChange s with cond := some uptoSmall }

/-- 'forkledgerlaw5.ManytimeSizes', WHERE WHAT IT READS IS OF BULK AT MOST 1048576: true; the input reads as it did. -/
def manytimeSizesUptoRow : OpenClaim := { program := "ytilhceihelcdgaa", sum := "4a8c11c831df91115dbcae1746616a52ff0e6fb311b08f40fcc7110d48dc34a0", func := "forkledger/forkledgerlaw5.ManytimeSizes", spec := "manytimeSizes", plainKeys := false, apart := false, narrowed := true }
def ManytimeSizesUptoSaid : Prop := manytimeSizesUptoRow.holds Try.pinned (OpenSpec.upto manytimeSizesSpec)

/-- 'forkledgerlaw5.ManytimeVerifies', WHERE WHAT IT READS IS OF BULK AT MOST 1048576: true; the input reads as it did. -/
def manytimeVerifiesUptoRow : OpenClaim := { program := "ytilhceihelcdgaa", sum := "4a8c11c831df91115dbcae1746616a52ff0e6fb311b08f40fcc7110d48dc34a0", func := "forkledger/forkledgerlaw5.ManytimeVerifies", spec := "manytimeVerifies", recurses := true, plainKeys := false, apart := false, narrowed := true }
def ManytimeVerifiesUptoSaid : Prop := manytimeVerifiesUptoRow.holds Try.pinned (OpenSpec.upto manytimeVerifiesSpec)

/-- 'forkledgerlaw5.ManytimeSigns', WHERE WHAT IT READS IS OF BULK AT MOST 1048576: true; the input reads as it did. -/
def manytimeSignsUptoRow : OpenClaim := { program := "ytilhceihelcdgaa", sum := "4a8c11c831df91115dbcae1746616a52ff0e6fb311b08f40fcc7110d48dc34a0", func := "forkledger/forkledgerlaw5.ManytimeSigns", spec := "manytimeSigns", recurses := true, plainKeys := false, apart := false, narrowed := true }
def ManytimeSignsUptoSaid : Prop := manytimeSignsUptoRow.holds Try.pinned (OpenSpec.upto manytimeSignsSpec)

/-- 'forkledgerlaw5.ManytimeKeys', WHERE WHAT IT READS IS OF BULK AT MOST 1048576: true; the input reads as it did. -/
def manytimeKeysUptoRow : OpenClaim := { program := "ytilhceihelcdgaa", sum := "4a8c11c831df91115dbcae1746616a52ff0e6fb311b08f40fcc7110d48dc34a0", func := "forkledger/forkledgerlaw5.ManytimeKeys", spec := "manytimeKeys", recurses := true, plainKeys := false, apart := false, narrowed := true }
def ManytimeKeysUptoSaid : Prop := manytimeKeysUptoRow.holds Try.pinned (OpenSpec.upto manytimeKeysSpec)

/-- 'forkledgerlaw5.ManytimeAccepts', WHERE WHAT IT READS IS OF BULK AT MOST 1048576: true; the input reads as it did. -/
def manytimeAcceptsUptoRow : OpenClaim := { program := "ytilhceihelcdgaa", sum := "4a8c11c831df91115dbcae1746616a52ff0e6fb311b08f40fcc7110d48dc34a0", func := "forkledger/forkledgerlaw5.ManytimeAccepts", spec := "manytimeAccepts", recurses := true, plainKeys := false, apart := false, narrowed := true }
def ManytimeAcceptsUptoSaid : Prop := manytimeAcceptsUptoRow.holds Try.pinned (OpenSpec.upto manytimeAcceptsSpec)

/-- 'forkledgerlaw5.ManytimeApart', WHERE WHAT IT READS IS OF BULK AT MOST 1048576: true; the input reads as it did. -/
def manytimeApartUptoRow : OpenClaim := { program := "ytilhceihelcdgaa", sum := "4a8c11c831df91115dbcae1746616a52ff0e6fb311b08f40fcc7110d48dc34a0", func := "forkledger/forkledgerlaw5.ManytimeApart", spec := "manytimeApart", recurses := true, plainKeys := false, apart := false, narrowed := true }
def ManytimeApartUptoSaid : Prop := manytimeApartUptoRow.holds Try.pinned (OpenSpec.upto manytimeApartSpec)

/-- 'forkledgerlaw24.BlockNames', WHERE WHAT IT READS IS OF BULK AT MOST 1048576: true; the input reads as it did. -/
def blockNamesUptoRow : OpenClaim := { program := "ytilhceihelcdgaa", sum := "4a8c11c831df91115dbcae1746616a52ff0e6fb311b08f40fcc7110d48dc34a0", func := "forkledger/forkledgerlaw24.BlockNames", spec := "blockNames", unfollowed := true, recurses := true, plainKeys := false, apart := false, narrowed := true }
def BlockNamesUptoSaid : Prop := blockNamesUptoRow.holds Try.pinned (OpenSpec.upto blockNamesSpec)

/-- 'forkledgerlaw24.BlockPayload', WHERE WHAT IT READS IS OF BULK AT MOST 1048576: true; the input reads as it did. -/
def blockPayloadUptoRow : OpenClaim := { program := "ytilhceihelcdgaa", sum := "4a8c11c831df91115dbcae1746616a52ff0e6fb311b08f40fcc7110d48dc34a0", func := "forkledger/forkledgerlaw24.BlockPayload", spec := "blockPayload", unfollowed := true, recurses := true, plainKeys := false, apart := false, narrowed := true }
def BlockPayloadUptoSaid : Prop := blockPayloadUptoRow.holds Try.pinned (OpenSpec.upto blockPayloadSpec)

/-- 'forkledgerlaw24.BlockBlock', WHERE WHAT IT READS IS OF BULK AT MOST 1048576: true; the input reads as it did. -/
def blockBlockUptoRow : OpenClaim := { program := "ytilhceihelcdgaa", sum := "4a8c11c831df91115dbcae1746616a52ff0e6fb311b08f40fcc7110d48dc34a0", func := "forkledger/forkledgerlaw24.BlockBlock", spec := "blockBlock", unfollowed := true, recurses := true, plainKeys := false, apart := false, narrowed := true }
def BlockBlockUptoSaid : Prop := blockBlockUptoRow.holds Try.pinned (OpenSpec.upto blockBlockSpec)

/-- 'forkledgerlaw24.BlockGenesis', WHERE WHAT IT READS IS OF BULK AT MOST 1048576: true; the input reads as it did. -/
def blockGenesisUptoRow : OpenClaim := { program := "ytilhceihelcdgaa", sum := "4a8c11c831df91115dbcae1746616a52ff0e6fb311b08f40fcc7110d48dc34a0", func := "forkledger/forkledgerlaw24.BlockGenesis", spec := "blockGenesis", unfollowed := true, recurses := true, plainKeys := false, apart := false, narrowed := true }
def BlockGenesisUptoSaid : Prop := blockGenesisUptoRow.holds Try.pinned (OpenSpec.upto blockGenesisSpec)

/-- 'forkledgerlaw20.TxEncode', WHERE WHAT IT READS IS OF BULK AT MOST 1048576: true; the input reads as it did. -/
def txEncodeUptoRow : OpenClaim := { program := "ytilhceihelcdgaa", sum := "4a8c11c831df91115dbcae1746616a52ff0e6fb311b08f40fcc7110d48dc34a0", func := "forkledger/forkledgerlaw20.TxEncode", spec := "txEncode", unfollowed := true, recurses := true, plainKeys := false, apart := false, narrowed := true }
def TxEncodeUptoSaid : Prop := txEncodeUptoRow.holds Try.pinned (OpenSpec.upto txEncodeSpec)

/-- 'forkledgerlaw20.TxDecode', WHERE WHAT IT READS IS OF BULK AT MOST 1048576: true; the input reads as it did. -/
def txDecodeUptoRow : OpenClaim := { program := "ytilhceihelcdgaa", sum := "4a8c11c831df91115dbcae1746616a52ff0e6fb311b08f40fcc7110d48dc34a0", func := "forkledger/forkledgerlaw20.TxDecode", spec := "txDecode", unfollowed := true, recurses := true, plainKeys := false, apart := false, narrowed := true }
def TxDecodeUptoSaid : Prop := txDecodeUptoRow.holds Try.pinned (OpenSpec.upto txDecodeSpec)

/-- 'forkledgerlaw20.TxTruncated', WHERE WHAT IT READS IS OF BULK AT MOST 1048576: true; the input reads as it did. -/
def txTruncatedUptoRow : OpenClaim := { program := "ytilhceihelcdgaa", sum := "4a8c11c831df91115dbcae1746616a52ff0e6fb311b08f40fcc7110d48dc34a0", func := "forkledger/forkledgerlaw20.TxTruncated", spec := "txTruncated", unfollowed := true, recurses := true, plainKeys := false, apart := false, narrowed := true }
def TxTruncatedUptoSaid : Prop := txTruncatedUptoRow.holds Try.pinned (OpenSpec.upto txTruncatedSpec)

/-- 'forkledgerlaw20.TxEqual', WHERE WHAT IT READS IS OF BULK AT MOST 1048576: true; the input reads as it did. -/
def txEqualUptoRow : OpenClaim := { program := "ytilhceihelcdgaa", sum := "4a8c11c831df91115dbcae1746616a52ff0e6fb311b08f40fcc7110d48dc34a0", func := "forkledger/forkledgerlaw20.TxEqual", spec := "txEqual", unfollowed := true, recurses := true, plainKeys := false, apart := false, narrowed := true }
def TxEqualUptoSaid : Prop := txEqualUptoRow.holds Try.pinned (OpenSpec.upto txEqualSpec)

/-- 'forkledgerlaw20.TxValidate', WHERE WHAT IT READS IS OF BULK AT MOST 1048576: true; the input reads as it did. -/
def txValidateUptoRow : OpenClaim := { program := "ytilhceihelcdgaa", sum := "4a8c11c831df91115dbcae1746616a52ff0e6fb311b08f40fcc7110d48dc34a0", func := "forkledger/forkledgerlaw20.TxValidate", spec := "txValidate", unfollowed := true, recurses := true, plainKeys := false, apart := false, narrowed := true }
def TxValidateUptoSaid : Prop := txValidateUptoRow.holds Try.pinned (OpenSpec.upto txValidateSpec)

/-- 'forkledgerlaw41.ScriptConfigs', WHERE WHAT IT READS IS OF BULK AT MOST 1048576: true; the input reads as it did. -/
def scriptConfigsUptoRow : OpenClaim := { program := "ytilhceihelcdgaa", sum := "4a8c11c831df91115dbcae1746616a52ff0e6fb311b08f40fcc7110d48dc34a0", func := "forkledger/forkledgerlaw41.ScriptConfigs", spec := "scriptConfigs", inPlace := ["internal/bytealg.Compare"], unfollowed := true, recurses := true, plainKeys := false, apart := false, narrowed := true }
def ScriptConfigsUptoSaid : Prop := scriptConfigsUptoRow.holds Try.pinned (OpenSpec.upto scriptConfigsSpec)

/-- 'forkledgerlaw41.ScriptEqual', WHERE WHAT IT READS IS OF BULK AT MOST 1048576: true; the input reads as it did. -/
def scriptEqualUptoRow : OpenClaim := { program := "ytilhceihelcdgaa", sum := "4a8c11c831df91115dbcae1746616a52ff0e6fb311b08f40fcc7110d48dc34a0", func := "forkledger/forkledgerlaw41.ScriptEqual", spec := "scriptEqual", inPlace := ["internal/bytealg.Compare"], unfollowed := true, recurses := true, plainKeys := false, apart := false, narrowed := true }
def ScriptEqualUptoSaid : Prop := scriptEqualUptoRow.holds Try.pinned (OpenSpec.upto scriptEqualSpec)

end Rows
end Go.Proofs.Ytilhceihelcdgaa
