/-
  No cell of these rows narrows 'for every input' (looked for: loops, veiled, ifaces, maps, wideKeys, modest, calm, conditions, laid).
  DERIVED. THE GIVEN ROWS OF THIS SEAT. 18 by the template 'for every input the law returns true; each argument reads behind the call as it read before'; 0 by the template 'total and deterministic' (their statements: YtjefojpbglcjhaaTotals.lean).
  GIVEN WITH THE SEED: the statements are not yours to turn. If you find one false, say at which input.
  Laid BY PROGRAM, IN A SANDBOX (cutbox-rows.mjs): the forced cells as the released guide's own fill.sh prints them over the translation 42d793281d8d86eb… (all of the seat's roots in one cut). By AI agents, Wed Nov 11 2026. No macro, syntax, notation, axiom, sorry.
-/
import Derived.Test.YtjefojpbglcjhaaChecked
import GoSem.Claim
import GoSem.ClaimJoined
import GoSem.ClaimMapViews
import Derived.JoinedTies
import Derived.KernelRfl
namespace Go.Proofs.Ytjefojpbglcjhaa
/- THE CELL 'sum', in the pinned program and in every row, IS THE sha256 OF THE DUMP (.gsa) THAT YtjefojpbglcjhaaProg.lean LOADS. Nothing in Lean hashes anything: it is a label: what it is worth is what the hold of that sum in a sandbox is worth. -/
noncomputable def Try.pinned : Pinned := { name := "ytjefojpbglcjhaa", sum := "42d793281d8d86eb5bde77bc4e9c2227d971517940d091116542a471d4c4b553", checked := Try.checked }
namespace Rows
def none {H : Type} : Left H := { results := [], args := [] }

/-- 'drayagelaw17.ArbiterSolo': WHATEVER THE INPUT: true; the input reads as it did. -/
def arbiterSoloSpec : ChangeSpec := { name := "arbiterSolo", fn := fun _ => fun
  | [d1, d2, d3] => { results := [.lit (.bool true)], args := [d1, d2, d3] }
  | _ => none }
def arbiterSoloRow : OpenClaim := { program := "ytjefojpbglcjhaa", sum := "42d793281d8d86eb5bde77bc4e9c2227d971517940d091116542a471d4c4b553", func := "drayage/drayagelaw17.ArbiterSolo", spec := "arbiterSolo", apart := false }
def ArbiterSoloSaid : Prop := arbiterSoloRow.holds Try.pinned (OpenSpec.ofChange arbiterSoloSpec)

/-- ITS FALSE NEIGHBOUR: 'it returns false'. Refute it at one input. -/
def arbiterSoloWrong : ChangeSpec := { name := "arbiterSolo", fn := fun _ => fun
  | [d1, d2, d3] => { results := [.lit (.bool false)], args := [d1, d2, d3] }
  | _ => none }
def ArbiterSoloWrongFalsely : Prop := arbiterSoloRow.holds Try.pinned (OpenSpec.ofChange arbiterSoloWrong)

/-- 'drayagelaw14.SagaOrder': WHATEVER THE INPUT: true; the input reads as it did. -/
def sagaOrderSpec : ChangeSpec := { name := "sagaOrder", fn := fun _ => fun
  | [d1, d2] => { results := [.lit (.bool true)], args := [d1, d2] }
  | _ => none }
def sagaOrderRow : OpenClaim := { program := "ytjefojpbglcjhaa", sum := "42d793281d8d86eb5bde77bc4e9c2227d971517940d091116542a471d4c4b553", func := "drayage/drayagelaw14.SagaOrder", spec := "sagaOrder", apart := false }
def SagaOrderSaid : Prop := sagaOrderRow.holds Try.pinned (OpenSpec.ofChange sagaOrderSpec)

/-- ITS FALSE NEIGHBOUR: 'it returns false'. Refute it at one input. -/
def sagaOrderWrong : ChangeSpec := { name := "sagaOrder", fn := fun _ => fun
  | [d1, d2] => { results := [.lit (.bool false)], args := [d1, d2] }
  | _ => none }
def SagaOrderWrongFalsely : Prop := sagaOrderRow.holds Try.pinned (OpenSpec.ofChange sagaOrderWrong)

/-- 'drayagelaw04.EntryPuts': WHATEVER THE INPUT: true; the input reads as it did. -/
def entryPutsSpec : ChangeSpec := { name := "entryPuts", fn := fun _ => fun
  | [d] => { results := [.lit (.bool true)], args := [d] }
  | _ => none }
def entryPutsRow : OpenClaim := { program := "ytjefojpbglcjhaa", sum := "42d793281d8d86eb5bde77bc4e9c2227d971517940d091116542a471d4c4b553", func := "drayage/drayagelaw04.EntryPuts", spec := "entryPuts", apart := false }
def EntryPutsSaid : Prop := entryPutsRow.holds Try.pinned (OpenSpec.ofChange entryPutsSpec)

/-- ITS FALSE NEIGHBOUR: 'it returns false'. Refute it at one input. -/
def entryPutsWrong : ChangeSpec := { name := "entryPuts", fn := fun _ => fun
  | [d] => { results := [.lit (.bool false)], args := [d] }
  | _ => none }
def EntryPutsWrongFalsely : Prop := entryPutsRow.holds Try.pinned (OpenSpec.ofChange entryPutsWrong)

/-- 'drayagelaw04.EntryGets': WHATEVER THE INPUT: true; the input reads as it did. -/
def entryGetsSpec : ChangeSpec := { name := "entryGets", fn := fun _ => fun
  | [d] => { results := [.lit (.bool true)], args := [d] }
  | _ => none }
def entryGetsRow : OpenClaim := { program := "ytjefojpbglcjhaa", sum := "42d793281d8d86eb5bde77bc4e9c2227d971517940d091116542a471d4c4b553", func := "drayage/drayagelaw04.EntryGets", spec := "entryGets", apart := false }
def EntryGetsSaid : Prop := entryGetsRow.holds Try.pinned (OpenSpec.ofChange entryGetsSpec)

/-- ITS FALSE NEIGHBOUR: 'it returns false'. Refute it at one input. -/
def entryGetsWrong : ChangeSpec := { name := "entryGets", fn := fun _ => fun
  | [d] => { results := [.lit (.bool false)], args := [d] }
  | _ => none }
def EntryGetsWrongFalsely : Prop := entryGetsRow.holds Try.pinned (OpenSpec.ofChange entryGetsWrong)

/-- 'drayagelaw17.ArbiterServes': WHATEVER THE INPUT: true; the input reads as it did. -/
def arbiterServesSpec : ChangeSpec := { name := "arbiterServes", fn := fun _ => fun
  | [d1, d2, d3] => { results := [.lit (.bool true)], args := [d1, d2, d3] }
  | _ => none }
def arbiterServesRow : OpenClaim := { program := "ytjefojpbglcjhaa", sum := "42d793281d8d86eb5bde77bc4e9c2227d971517940d091116542a471d4c4b553", func := "drayage/drayagelaw17.ArbiterServes", spec := "arbiterServes", apart := false }
def ArbiterServesSaid : Prop := arbiterServesRow.holds Try.pinned (OpenSpec.ofChange arbiterServesSpec)

/-- ITS FALSE NEIGHBOUR: 'it returns false'. Refute it at one input. -/
def arbiterServesWrong : ChangeSpec := { name := "arbiterServes", fn := fun _ => fun
  | [d1, d2, d3] => { results := [.lit (.bool false)], args := [d1, d2, d3] }
  | _ => none }
def ArbiterServesWrongFalsely : Prop := arbiterServesRow.holds Try.pinned (OpenSpec.ofChange arbiterServesWrong)

/-- 'drayagelaw17.ArbiterEpochs': WHATEVER THE INPUT: true; the input reads as it did. -/
def arbiterEpochsSpec : ChangeSpec := { name := "arbiterEpochs", fn := fun _ => fun
  | [d] => { results := [.lit (.bool true)], args := [d] }
  | _ => none }
def arbiterEpochsRow : OpenClaim := { program := "ytjefojpbglcjhaa", sum := "42d793281d8d86eb5bde77bc4e9c2227d971517940d091116542a471d4c4b553", func := "drayage/drayagelaw17.ArbiterEpochs", spec := "arbiterEpochs", apart := false }
def ArbiterEpochsSaid : Prop := arbiterEpochsRow.holds Try.pinned (OpenSpec.ofChange arbiterEpochsSpec)

/-- ITS FALSE NEIGHBOUR: 'it returns false'. Refute it at one input. -/
def arbiterEpochsWrong : ChangeSpec := { name := "arbiterEpochs", fn := fun _ => fun
  | [d] => { results := [.lit (.bool false)], args := [d] }
  | _ => none }
def ArbiterEpochsWrongFalsely : Prop := arbiterEpochsRow.holds Try.pinned (OpenSpec.ofChange arbiterEpochsWrong)

/-- 'drayagelaw05.NotePuts': WHATEVER THE INPUT: true; the input reads as it did. -/
def notePutsSpec : ChangeSpec := { name := "notePuts", fn := fun _ => fun
  | [d] => { results := [.lit (.bool true)], args := [d] }
  | _ => none }
def notePutsRow : OpenClaim := { program := "ytjefojpbglcjhaa", sum := "42d793281d8d86eb5bde77bc4e9c2227d971517940d091116542a471d4c4b553", func := "drayage/drayagelaw05.NotePuts", spec := "notePuts", apart := false }
def NotePutsSaid : Prop := notePutsRow.holds Try.pinned (OpenSpec.ofChange notePutsSpec)

/-- ITS FALSE NEIGHBOUR: 'it returns false'. Refute it at one input. -/
def notePutsWrong : ChangeSpec := { name := "notePuts", fn := fun _ => fun
  | [d] => { results := [.lit (.bool false)], args := [d] }
  | _ => none }
def NotePutsWrongFalsely : Prop := notePutsRow.holds Try.pinned (OpenSpec.ofChange notePutsWrong)

/-- 'drayagelaw05.NoteGets': WHATEVER THE INPUT: true; the input reads as it did. -/
def noteGetsSpec : ChangeSpec := { name := "noteGets", fn := fun _ => fun
  | [d] => { results := [.lit (.bool true)], args := [d] }
  | _ => none }
def noteGetsRow : OpenClaim := { program := "ytjefojpbglcjhaa", sum := "42d793281d8d86eb5bde77bc4e9c2227d971517940d091116542a471d4c4b553", func := "drayage/drayagelaw05.NoteGets", spec := "noteGets", apart := false }
def NoteGetsSaid : Prop := noteGetsRow.holds Try.pinned (OpenSpec.ofChange noteGetsSpec)

/-- ITS FALSE NEIGHBOUR: 'it returns false'. Refute it at one input. -/
def noteGetsWrong : ChangeSpec := { name := "noteGets", fn := fun _ => fun
  | [d] => { results := [.lit (.bool false)], args := [d] }
  | _ => none }
def NoteGetsWrongFalsely : Prop := noteGetsRow.holds Try.pinned (OpenSpec.ofChange noteGetsWrong)

/-- 'drayagelaw17.ArbiterLoads': WHATEVER THE INPUT: true; the input reads as it did. -/
def arbiterLoadsSpec : ChangeSpec := { name := "arbiterLoads", fn := fun _ => fun
  | [d1, d2, d3, d4, d5] => { results := [.lit (.bool true)], args := [d1, d2, d3, d4, d5] }
  | _ => none }
def arbiterLoadsRow : OpenClaim := { program := "ytjefojpbglcjhaa", sum := "42d793281d8d86eb5bde77bc4e9c2227d971517940d091116542a471d4c4b553", func := "drayage/drayagelaw17.ArbiterLoads", spec := "arbiterLoads", apart := false }
def ArbiterLoadsSaid : Prop := arbiterLoadsRow.holds Try.pinned (OpenSpec.ofChange arbiterLoadsSpec)

/-- ITS FALSE NEIGHBOUR: 'it returns false'. Refute it at one input. -/
def arbiterLoadsWrong : ChangeSpec := { name := "arbiterLoads", fn := fun _ => fun
  | [d1, d2, d3, d4, d5] => { results := [.lit (.bool false)], args := [d1, d2, d3, d4, d5] }
  | _ => none }
def ArbiterLoadsWrongFalsely : Prop := arbiterLoadsRow.holds Try.pinned (OpenSpec.ofChange arbiterLoadsWrong)

/-- 'drayagelaw17.ArbiterAlone': WHATEVER THE INPUT: true; the input reads as it did. -/
def arbiterAloneSpec : ChangeSpec := { name := "arbiterAlone", fn := fun _ => fun
  | [d1, d2, d3] => { results := [.lit (.bool true)], args := [d1, d2, d3] }
  | _ => none }
def arbiterAloneRow : OpenClaim := { program := "ytjefojpbglcjhaa", sum := "42d793281d8d86eb5bde77bc4e9c2227d971517940d091116542a471d4c4b553", func := "drayage/drayagelaw17.ArbiterAlone", spec := "arbiterAlone", apart := false }
def ArbiterAloneSaid : Prop := arbiterAloneRow.holds Try.pinned (OpenSpec.ofChange arbiterAloneSpec)

/-- ITS FALSE NEIGHBOUR: 'it returns false'. Refute it at one input. -/
def arbiterAloneWrong : ChangeSpec := { name := "arbiterAlone", fn := fun _ => fun
  | [d1, d2, d3] => { results := [.lit (.bool false)], args := [d1, d2, d3] }
  | _ => none }
def ArbiterAloneWrongFalsely : Prop := arbiterAloneRow.holds Try.pinned (OpenSpec.ofChange arbiterAloneWrong)

/-- 'drayagelaw20.LedgerSame': WHATEVER THE INPUT: true; the input reads as it did. -/
def ledgerSameSpec : ChangeSpec := { name := "ledgerSame", fn := fun _ => fun
  | [d1, d2] => { results := [.lit (.bool true)], args := [d1, d2] }
  | _ => none }
def ledgerSameRow : OpenClaim := { program := "ytjefojpbglcjhaa", sum := "42d793281d8d86eb5bde77bc4e9c2227d971517940d091116542a471d4c4b553", func := "drayage/drayagelaw20.LedgerSame", spec := "ledgerSame", inPlace := ["sync/atomic.AddInt64"], apart := false }
def LedgerSameSaid : Prop := ledgerSameRow.holds Try.pinned (OpenSpec.ofChange ledgerSameSpec)

/-- ITS FALSE NEIGHBOUR: 'it returns false'. Refute it at one input. -/
def ledgerSameWrong : ChangeSpec := { name := "ledgerSame", fn := fun _ => fun
  | [d1, d2] => { results := [.lit (.bool false)], args := [d1, d2] }
  | _ => none }
def LedgerSameWrongFalsely : Prop := ledgerSameRow.holds Try.pinned (OpenSpec.ofChange ledgerSameWrong)

/-- 'drayagelaw20.LedgerKeys': WHATEVER THE INPUT: true; the input reads as it did. -/
def ledgerKeysSpec : ChangeSpec := { name := "ledgerKeys", fn := fun _ => fun
  | [d] => { results := [.lit (.bool true)], args := [d] }
  | _ => none }
def ledgerKeysRow : OpenClaim := { program := "ytjefojpbglcjhaa", sum := "42d793281d8d86eb5bde77bc4e9c2227d971517940d091116542a471d4c4b553", func := "drayage/drayagelaw20.LedgerKeys", spec := "ledgerKeys", inPlace := ["sync/atomic.AddInt64"], apart := false }
def LedgerKeysSaid : Prop := ledgerKeysRow.holds Try.pinned (OpenSpec.ofChange ledgerKeysSpec)

/-- ITS FALSE NEIGHBOUR: 'it returns false'. Refute it at one input. -/
def ledgerKeysWrong : ChangeSpec := { name := "ledgerKeys", fn := fun _ => fun
  | [d] => { results := [.lit (.bool false)], args := [d] }
  | _ => none }
def LedgerKeysWrongFalsely : Prop := ledgerKeysRow.holds Try.pinned (OpenSpec.ofChange ledgerKeysWrong)

/-- 'drayagelaw20.LedgerGoes': WHATEVER THE INPUT: true; the input reads as it did. -/
def ledgerGoesSpec : ChangeSpec := { name := "ledgerGoes", fn := fun _ => fun
  | [d] => { results := [.lit (.bool true)], args := [d] }
  | _ => none }
def ledgerGoesRow : OpenClaim := { program := "ytjefojpbglcjhaa", sum := "42d793281d8d86eb5bde77bc4e9c2227d971517940d091116542a471d4c4b553", func := "drayage/drayagelaw20.LedgerGoes", spec := "ledgerGoes", inPlace := ["sync/atomic.AddInt64"], apart := false }
def LedgerGoesSaid : Prop := ledgerGoesRow.holds Try.pinned (OpenSpec.ofChange ledgerGoesSpec)

/-- ITS FALSE NEIGHBOUR: 'it returns false'. Refute it at one input. -/
def ledgerGoesWrong : ChangeSpec := { name := "ledgerGoes", fn := fun _ => fun
  | [d] => { results := [.lit (.bool false)], args := [d] }
  | _ => none }
def LedgerGoesWrongFalsely : Prop := ledgerGoesRow.holds Try.pinned (OpenSpec.ofChange ledgerGoesWrong)

/-- 'drayagelaw20.LedgerRefuses': WHATEVER THE INPUT: true; the input reads as it did. -/
def ledgerRefusesSpec : ChangeSpec := { name := "ledgerRefuses", fn := fun _ => fun
  | [d1, d2] => { results := [.lit (.bool true)], args := [d1, d2] }
  | _ => none }
def ledgerRefusesRow : OpenClaim := { program := "ytjefojpbglcjhaa", sum := "42d793281d8d86eb5bde77bc4e9c2227d971517940d091116542a471d4c4b553", func := "drayage/drayagelaw20.LedgerRefuses", spec := "ledgerRefuses", inPlace := ["sync/atomic.AddInt64", "sync/atomic.LoadInt64"], apart := false }
def LedgerRefusesSaid : Prop := ledgerRefusesRow.holds Try.pinned (OpenSpec.ofChange ledgerRefusesSpec)

/-- ITS FALSE NEIGHBOUR: 'it returns false'. Refute it at one input. -/
def ledgerRefusesWrong : ChangeSpec := { name := "ledgerRefuses", fn := fun _ => fun
  | [d1, d2] => { results := [.lit (.bool false)], args := [d1, d2] }
  | _ => none }
def LedgerRefusesWrongFalsely : Prop := ledgerRefusesRow.holds Try.pinned (OpenSpec.ofChange ledgerRefusesWrong)

/-- 'drayagelaw19.ShipSends': WHATEVER THE INPUT: true; the input reads as it did. -/
def shipSendsSpec : ChangeSpec := { name := "shipSends", fn := fun _ => fun
  | [d1, d2, d3] => { results := [.lit (.bool true)], args := [d1, d2, d3] }
  | _ => none }
def shipSendsRow : OpenClaim := { program := "ytjefojpbglcjhaa", sum := "42d793281d8d86eb5bde77bc4e9c2227d971517940d091116542a471d4c4b553", func := "drayage/drayagelaw19.ShipSends", spec := "shipSends", unfollowed := true, recurses := true, apart := false }
def ShipSendsSaid : Prop := shipSendsRow.holds Try.pinned (OpenSpec.ofChange shipSendsSpec)

/-- ITS FALSE NEIGHBOUR: 'it returns false'. Refute it at one input. -/
def shipSendsWrong : ChangeSpec := { name := "shipSends", fn := fun _ => fun
  | [d1, d2, d3] => { results := [.lit (.bool false)], args := [d1, d2, d3] }
  | _ => none }
def ShipSendsWrongFalsely : Prop := shipSendsRow.holds Try.pinned (OpenSpec.ofChange shipSendsWrong)

/-- 'drayagelaw19.ShipTakes': WHATEVER THE INPUT: true; the input reads as it did. -/
def shipTakesSpec : ChangeSpec := { name := "shipTakes", fn := fun _ => fun
  | [d1, d2, d3] => { results := [.lit (.bool true)], args := [d1, d2, d3] }
  | _ => none }
def shipTakesRow : OpenClaim := { program := "ytjefojpbglcjhaa", sum := "42d793281d8d86eb5bde77bc4e9c2227d971517940d091116542a471d4c4b553", func := "drayage/drayagelaw19.ShipTakes", spec := "shipTakes", unfollowed := true, recurses := true, apart := false }
def ShipTakesSaid : Prop := shipTakesRow.holds Try.pinned (OpenSpec.ofChange shipTakesSpec)

/-- ITS FALSE NEIGHBOUR: 'it returns false'. Refute it at one input. -/
def shipTakesWrong : ChangeSpec := { name := "shipTakes", fn := fun _ => fun
  | [d1, d2, d3] => { results := [.lit (.bool false)], args := [d1, d2, d3] }
  | _ => none }
def ShipTakesWrongFalsely : Prop := shipTakesRow.holds Try.pinned (OpenSpec.ofChange shipTakesWrong)

/-- 'drayagelaw19.ShipNexts': WHATEVER THE INPUT: true; the input reads as it did. -/
def shipNextsSpec : ChangeSpec := { name := "shipNexts", fn := fun _ => fun
  | [d1, d2, d3, d4, d5] => { results := [.lit (.bool true)], args := [d1, d2, d3, d4, d5] }
  | _ => none }
def shipNextsRow : OpenClaim := { program := "ytjefojpbglcjhaa", sum := "42d793281d8d86eb5bde77bc4e9c2227d971517940d091116542a471d4c4b553", func := "drayage/drayagelaw19.ShipNexts", spec := "shipNexts", unfollowed := true, recurses := true, apart := false }
def ShipNextsSaid : Prop := shipNextsRow.holds Try.pinned (OpenSpec.ofChange shipNextsSpec)

/-- ITS FALSE NEIGHBOUR: 'it returns false'. Refute it at one input. -/
def shipNextsWrong : ChangeSpec := { name := "shipNexts", fn := fun _ => fun
  | [d1, d2, d3, d4, d5] => { results := [.lit (.bool false)], args := [d1, d2, d3, d4, d5] }
  | _ => none }
def ShipNextsWrongFalsely : Prop := shipNextsRow.holds Try.pinned (OpenSpec.ofChange shipNextsWrong)

/-- 'drayagelaw19.ShipBrings': WHATEVER THE INPUT: true; the input reads as it did. -/
def shipBringsSpec : ChangeSpec := { name := "shipBrings", fn := fun _ => fun
  | [d1, d2] => { results := [.lit (.bool true)], args := [d1, d2] }
  | _ => none }
def shipBringsRow : OpenClaim := { program := "ytjefojpbglcjhaa", sum := "42d793281d8d86eb5bde77bc4e9c2227d971517940d091116542a471d4c4b553", func := "drayage/drayagelaw19.ShipBrings", spec := "shipBrings", unfollowed := true, recurses := true, apart := false }
def ShipBringsSaid : Prop := shipBringsRow.holds Try.pinned (OpenSpec.ofChange shipBringsSpec)

/-- ITS FALSE NEIGHBOUR: 'it returns false'. Refute it at one input. -/
def shipBringsWrong : ChangeSpec := { name := "shipBrings", fn := fun _ => fun
  | [d1, d2] => { results := [.lit (.bool false)], args := [d1, d2] }
  | _ => none }
def ShipBringsWrongFalsely : Prop := shipBringsRow.holds Try.pinned (OpenSpec.ofChange shipBringsWrong)

/- THE SECOND FORM. 'bulk': how many values and letters a reading holds, each counted each time it is reached (what is shared counts as often as it is met; a slice's spare places count too). A statement '..UptoSaid' is the law's where the arguments, and the package variables that the reading takes, are together of bulk at most 1048576: NARROWER than '..Said'. Prove '..Said' where nothing that the law and all that it calls make is longer than what came in: it says more and counts as full. Else prove '..UptoSaid'. A law counts once. -/
mutual
def uptoBulk {H : Type} : DataW H → Nat
  | .lit (.string bytes) => bytes.length + 1
  | .lit _ => 1
  | .nil => 1
  | .ptr d => uptoBulk d + 1
  | .slice elems spare => uptoBulkAll elems + uptoBulkAll spare + 1
  | .agg parts => uptoBulkAll parts + 1
  | .iface _ d => uptoBulk d + 1
  | .map entries => uptoBulkEntries entries + 1
  | .held _ => 1
def uptoBulkAll {H : Type} : List (DataW H) → Nat
  | [] => 0
  | d :: r => uptoBulk d + uptoBulkAll r
def uptoBulkEntries {H : Type} : List (Lit × DataW H) → Nat
  | [] => 0
  | x :: r => uptoBulkEntry x + uptoBulkEntries r
def uptoBulkEntry {H : Type} : Lit × DataW H → Nat
  | (.string bytes, d) => bytes.length + uptoBulk d + 1
  | (_, d) => uptoBulk d + 1
 end
def uptoSmall : (H : Type) → List (DataW H) → Bool := fun _ ds => decide (uptoBulkAll ds ≤ 1048576)
def OpenSpec.upto (s : _root_.Go.ChangeSpec) : _root_.Go.OpenSpec := { _root_.Go.OpenSpec.ofChange s with cond := some uptoSmall }

/-- 'drayagelaw17.ArbiterSolo', WHERE WHAT IT READS IS OF BULK AT MOST 1048576: true; the input reads as it did. -/
def arbiterSoloUptoRow : OpenClaim := { program := "ytjefojpbglcjhaa", sum := "42d793281d8d86eb5bde77bc4e9c2227d971517940d091116542a471d4c4b553", func := "drayage/drayagelaw17.ArbiterSolo", spec := "arbiterSolo", apart := false, narrowed := true }
def ArbiterSoloUptoSaid : Prop := arbiterSoloUptoRow.holds Try.pinned (OpenSpec.upto arbiterSoloSpec)

/-- 'drayagelaw14.SagaOrder', WHERE WHAT IT READS IS OF BULK AT MOST 1048576: true; the input reads as it did. -/
def sagaOrderUptoRow : OpenClaim := { program := "ytjefojpbglcjhaa", sum := "42d793281d8d86eb5bde77bc4e9c2227d971517940d091116542a471d4c4b553", func := "drayage/drayagelaw14.SagaOrder", spec := "sagaOrder", apart := false, narrowed := true }
def SagaOrderUptoSaid : Prop := sagaOrderUptoRow.holds Try.pinned (OpenSpec.upto sagaOrderSpec)

/-- 'drayagelaw04.EntryPuts', WHERE WHAT IT READS IS OF BULK AT MOST 1048576: true; the input reads as it did. -/
def entryPutsUptoRow : OpenClaim := { program := "ytjefojpbglcjhaa", sum := "42d793281d8d86eb5bde77bc4e9c2227d971517940d091116542a471d4c4b553", func := "drayage/drayagelaw04.EntryPuts", spec := "entryPuts", apart := false, narrowed := true }
def EntryPutsUptoSaid : Prop := entryPutsUptoRow.holds Try.pinned (OpenSpec.upto entryPutsSpec)

/-- 'drayagelaw04.EntryGets', WHERE WHAT IT READS IS OF BULK AT MOST 1048576: true; the input reads as it did. -/
def entryGetsUptoRow : OpenClaim := { program := "ytjefojpbglcjhaa", sum := "42d793281d8d86eb5bde77bc4e9c2227d971517940d091116542a471d4c4b553", func := "drayage/drayagelaw04.EntryGets", spec := "entryGets", apart := false, narrowed := true }
def EntryGetsUptoSaid : Prop := entryGetsUptoRow.holds Try.pinned (OpenSpec.upto entryGetsSpec)

/-- 'drayagelaw17.ArbiterServes', WHERE WHAT IT READS IS OF BULK AT MOST 1048576: true; the input reads as it did. -/
def arbiterServesUptoRow : OpenClaim := { program := "ytjefojpbglcjhaa", sum := "42d793281d8d86eb5bde77bc4e9c2227d971517940d091116542a471d4c4b553", func := "drayage/drayagelaw17.ArbiterServes", spec := "arbiterServes", apart := false, narrowed := true }
def ArbiterServesUptoSaid : Prop := arbiterServesUptoRow.holds Try.pinned (OpenSpec.upto arbiterServesSpec)

/-- 'drayagelaw17.ArbiterEpochs', WHERE WHAT IT READS IS OF BULK AT MOST 1048576: true; the input reads as it did. -/
def arbiterEpochsUptoRow : OpenClaim := { program := "ytjefojpbglcjhaa", sum := "42d793281d8d86eb5bde77bc4e9c2227d971517940d091116542a471d4c4b553", func := "drayage/drayagelaw17.ArbiterEpochs", spec := "arbiterEpochs", apart := false, narrowed := true }
def ArbiterEpochsUptoSaid : Prop := arbiterEpochsUptoRow.holds Try.pinned (OpenSpec.upto arbiterEpochsSpec)

/-- 'drayagelaw05.NotePuts', WHERE WHAT IT READS IS OF BULK AT MOST 1048576: true; the input reads as it did. -/
def notePutsUptoRow : OpenClaim := { program := "ytjefojpbglcjhaa", sum := "42d793281d8d86eb5bde77bc4e9c2227d971517940d091116542a471d4c4b553", func := "drayage/drayagelaw05.NotePuts", spec := "notePuts", apart := false, narrowed := true }
def NotePutsUptoSaid : Prop := notePutsUptoRow.holds Try.pinned (OpenSpec.upto notePutsSpec)

/-- 'drayagelaw05.NoteGets', WHERE WHAT IT READS IS OF BULK AT MOST 1048576: true; the input reads as it did. -/
def noteGetsUptoRow : OpenClaim := { program := "ytjefojpbglcjhaa", sum := "42d793281d8d86eb5bde77bc4e9c2227d971517940d091116542a471d4c4b553", func := "drayage/drayagelaw05.NoteGets", spec := "noteGets", apart := false, narrowed := true }
def NoteGetsUptoSaid : Prop := noteGetsUptoRow.holds Try.pinned (OpenSpec.upto noteGetsSpec)

/-- 'drayagelaw17.ArbiterLoads', WHERE WHAT IT READS IS OF BULK AT MOST 1048576: true; the input reads as it did. -/
def arbiterLoadsUptoRow : OpenClaim := { program := "ytjefojpbglcjhaa", sum := "42d793281d8d86eb5bde77bc4e9c2227d971517940d091116542a471d4c4b553", func := "drayage/drayagelaw17.ArbiterLoads", spec := "arbiterLoads", apart := false, narrowed := true }
def ArbiterLoadsUptoSaid : Prop := arbiterLoadsUptoRow.holds Try.pinned (OpenSpec.upto arbiterLoadsSpec)

/-- 'drayagelaw17.ArbiterAlone', WHERE WHAT IT READS IS OF BULK AT MOST 1048576: true; the input reads as it did. -/
def arbiterAloneUptoRow : OpenClaim := { program := "ytjefojpbglcjhaa", sum := "42d793281d8d86eb5bde77bc4e9c2227d971517940d091116542a471d4c4b553", func := "drayage/drayagelaw17.ArbiterAlone", spec := "arbiterAlone", apart := false, narrowed := true }
def ArbiterAloneUptoSaid : Prop := arbiterAloneUptoRow.holds Try.pinned (OpenSpec.upto arbiterAloneSpec)

/-- 'drayagelaw20.LedgerSame', WHERE WHAT IT READS IS OF BULK AT MOST 1048576: true; the input reads as it did. -/
def ledgerSameUptoRow : OpenClaim := { program := "ytjefojpbglcjhaa", sum := "42d793281d8d86eb5bde77bc4e9c2227d971517940d091116542a471d4c4b553", func := "drayage/drayagelaw20.LedgerSame", spec := "ledgerSame", inPlace := ["sync/atomic.AddInt64"], apart := false, narrowed := true }
def LedgerSameUptoSaid : Prop := ledgerSameUptoRow.holds Try.pinned (OpenSpec.upto ledgerSameSpec)

/-- 'drayagelaw20.LedgerKeys', WHERE WHAT IT READS IS OF BULK AT MOST 1048576: true; the input reads as it did. -/
def ledgerKeysUptoRow : OpenClaim := { program := "ytjefojpbglcjhaa", sum := "42d793281d8d86eb5bde77bc4e9c2227d971517940d091116542a471d4c4b553", func := "drayage/drayagelaw20.LedgerKeys", spec := "ledgerKeys", inPlace := ["sync/atomic.AddInt64"], apart := false, narrowed := true }
def LedgerKeysUptoSaid : Prop := ledgerKeysUptoRow.holds Try.pinned (OpenSpec.upto ledgerKeysSpec)

/-- 'drayagelaw20.LedgerGoes', WHERE WHAT IT READS IS OF BULK AT MOST 1048576: true; the input reads as it did. -/
def ledgerGoesUptoRow : OpenClaim := { program := "ytjefojpbglcjhaa", sum := "42d793281d8d86eb5bde77bc4e9c2227d971517940d091116542a471d4c4b553", func := "drayage/drayagelaw20.LedgerGoes", spec := "ledgerGoes", inPlace := ["sync/atomic.AddInt64"], apart := false, narrowed := true }
def LedgerGoesUptoSaid : Prop := ledgerGoesUptoRow.holds Try.pinned (OpenSpec.upto ledgerGoesSpec)

/-- 'drayagelaw20.LedgerRefuses', WHERE WHAT IT READS IS OF BULK AT MOST 1048576: true; the input reads as it did. -/
def ledgerRefusesUptoRow : OpenClaim := { program := "ytjefojpbglcjhaa", sum := "42d793281d8d86eb5bde77bc4e9c2227d971517940d091116542a471d4c4b553", func := "drayage/drayagelaw20.LedgerRefuses", spec := "ledgerRefuses", inPlace := ["sync/atomic.AddInt64", "sync/atomic.LoadInt64"], apart := false, narrowed := true }
def LedgerRefusesUptoSaid : Prop := ledgerRefusesUptoRow.holds Try.pinned (OpenSpec.upto ledgerRefusesSpec)

/-- 'drayagelaw19.ShipSends', WHERE WHAT IT READS IS OF BULK AT MOST 1048576: true; the input reads as it did. -/
def shipSendsUptoRow : OpenClaim := { program := "ytjefojpbglcjhaa", sum := "42d793281d8d86eb5bde77bc4e9c2227d971517940d091116542a471d4c4b553", func := "drayage/drayagelaw19.ShipSends", spec := "shipSends", unfollowed := true, recurses := true, apart := false, narrowed := true }
def ShipSendsUptoSaid : Prop := shipSendsUptoRow.holds Try.pinned (OpenSpec.upto shipSendsSpec)

/-- 'drayagelaw19.ShipTakes', WHERE WHAT IT READS IS OF BULK AT MOST 1048576: true; the input reads as it did. -/
def shipTakesUptoRow : OpenClaim := { program := "ytjefojpbglcjhaa", sum := "42d793281d8d86eb5bde77bc4e9c2227d971517940d091116542a471d4c4b553", func := "drayage/drayagelaw19.ShipTakes", spec := "shipTakes", unfollowed := true, recurses := true, apart := false, narrowed := true }
def ShipTakesUptoSaid : Prop := shipTakesUptoRow.holds Try.pinned (OpenSpec.upto shipTakesSpec)

/-- 'drayagelaw19.ShipNexts', WHERE WHAT IT READS IS OF BULK AT MOST 1048576: true; the input reads as it did. -/
def shipNextsUptoRow : OpenClaim := { program := "ytjefojpbglcjhaa", sum := "42d793281d8d86eb5bde77bc4e9c2227d971517940d091116542a471d4c4b553", func := "drayage/drayagelaw19.ShipNexts", spec := "shipNexts", unfollowed := true, recurses := true, apart := false, narrowed := true }
def ShipNextsUptoSaid : Prop := shipNextsUptoRow.holds Try.pinned (OpenSpec.upto shipNextsSpec)

/-- 'drayagelaw19.ShipBrings', WHERE WHAT IT READS IS OF BULK AT MOST 1048576: true; the input reads as it did. -/
def shipBringsUptoRow : OpenClaim := { program := "ytjefojpbglcjhaa", sum := "42d793281d8d86eb5bde77bc4e9c2227d971517940d091116542a471d4c4b553", func := "drayage/drayagelaw19.ShipBrings", spec := "shipBrings", unfollowed := true, recurses := true, apart := false, narrowed := true }
def ShipBringsUptoSaid : Prop := shipBringsUptoRow.holds Try.pinned (OpenSpec.upto shipBringsSpec)

end Rows
end Go.Proofs.Ytjefojpbglcjhaa
