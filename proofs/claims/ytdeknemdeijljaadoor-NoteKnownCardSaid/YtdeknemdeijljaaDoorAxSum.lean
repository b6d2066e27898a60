/-
  SUMMARIES FOR THE EXECUTOR: functions of the library that the machine has itself: the first place of a byte in a string, how often it is there.
-/
import Derived.Test.YtdeknemdeijljaaDoorAxExec
import Derived.Lib.Bytealg
import Derived.Lib.Join
import Derived.Lib.ParseIntB
import Derived.Lib.AtoiAllMem
import Derived.Lib.AtoiAll
namespace Go.AX


def indexByteA : List Value → Mem → Option (Value × Mem)
  | [.string s, .int .u8 c], m => some (.int .i64 (Lib.indexByte s.data.toList c.toNat.toUInt8), m)
  | _, _ => none

def countA : List Value → Mem → Option (Value × Mem)
  | [.string s, .int .u8 c], m => some (.int .i64 (Lib.countByte s.data.toList c.toNat.toUInt8), m)
  | _, _ => none

/-- the strings of a slice -/
noncomputable def strsA (c : Tr Value) : Nat → Nat → Option (List ByteArray)
  | 0, _ => some []
  | n + 1, i => match c.get i with
    | some (.string s) => match strsA c n (i + 1) with
      | some l => some (s :: l)
      | none => none
    | _ => none

/-- strings.Join -/
noncomputable def joinA : List Value → Mem → Option (Value × Mem)
  | [.slice none 0 0, .string _], m => some (.string ⟨#[]⟩, m)
  | [.slice (some a) n cap, .string sep], m => match m.hp.get a.block with
    | some (.cells c k _ _) => match strsA c n a.off with
      | some l => match Nat.ble (a.off + n) k && Nat.ble n cap && Nat.ble n 140737488355328 && Nat.ble (Lib.join (l.map (·.data.toList)) sep.data.toList).length 140737488355328 with
        | true => some (.string ⟨(Lib.join (l.map (·.data.toList)) sep.data.toList).toArray⟩, m)
        | false => none
      | none => none
    | _ => none
  | _, _ => none

/-- internal/strconv.ParseInt at base 10 and 64 bits; T: the type of that package's errors -/
def parseIntA (T : TypeId) : List Value → Mem → Option (Value × Mem)
  | [.string s, .int .i64 10, .int .i64 64], m => match Nat.ble s.size 1000000 with
    | true => some (Lib.intTuple T (Lib.intSat 64 s.data.toList) (Lib.parseIntB 64 s.data.toList), m)
    | false => none
  | _, _ => none

/-- internal/strconv.Atoi -/
def atoiA (T : TypeId) : List Value → Mem → Option (Value × Mem)
  | [.string s], m => match Nat.ble s.size 1000000 with
    | true => some (Lib.intTuple T (Lib.atoiSat s.data.toList) (Lib.atoiAll s.data.toList), m)
    | false => none
  | _, _ => none

/-- a string's copy -/
def cloneA : List Value → Mem → Option (Value × Mem)
  | [.string s], m => match Nat.ble s.size 1000000 with
    | true => some (.string s, m)
    | false => none
  | _, _ => none

end Go.AX
