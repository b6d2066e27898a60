/-
  Package fault: what errors.Is and errors.As ask of reflectlite, at this program's types, as summaries.
  24: error · 27: api.Errno · 31: *fault.Fault · 33: **fault.Fault · 50: *api.Errno · 67: reflectlite's rtype · 4 package variables
-/
import Derived.Test.YtjefcmlnclnbeaaDoorRows
import Derived.Test.YtjefcmlnclnbeaaDoorAxRefl
import Derived.Test.YtjefcmlnclnbeaaDoorAxOpen
import Derived.KernelRfl
import Derived.Laws.Entries
namespace Go.Proofs.YtjefcmlnclnbeaaDoor.vc
open Go Go.AX Go.Extern
set_option linter.unusedVariables false
set_option maxRecDepth 100000

instance : Kap := ⟨False⟩

theorem gsize : Tryd.prog.globals.size = 4 := by kernel_rfl

theorem sum17 : SumOk Tryd.prog 17 (typeOfA Tryd.prog.globals.size 67) :=
  typeOf_ok (g := ReflectliteType.typeOf) Tryd.func17 (by kernel_rfl) (by kernel_rfl) (by kernel_rfl) (by kernel_rfl) (fun w => by kernel_rfl) (fun t v w => by kernel_rfl)

theorem alloc_one {t : TypeId} {f : Int} (h : ∀ (v : Value) (w : World), ((fun args : Array Value => ReflectliteValue.unpack (args.getD 0 (.tuple #[]))) #[.iface t v]).run Tryd.prog w = .ok (.agg #[typeHandle Tryd.prog t, .pointer (some ⟨w.heap.size, 0, none⟩), .int .u64 f]) (w.alloc (.cells v.cells t))) :
    ∀ (v : Value) (w : World), v.oneCell' = true → ((fun args : Array Value => ReflectliteValue.unpack (args.getD 0 (.tuple #[]))) #[.iface t v]).run Tryd.prog w = .ok (.agg #[typeHandle Tryd.prog t, .pointer (some ⟨w.heap.size, 0, none⟩), .int .u64 f]) (w.alloc (.cells #[v] t)) := fun v w ho => by
  have e : v.cells = #[v] := by cases v <;> first | rfl | (cases ho)
  rw [h v w, e]

theorem sum19 : SumOk Tryd.prog 19 (valueOfA Tryd.prog.globals.size [(31, 150), (27, 130), (33, 150), (50, 150)]) := by
  refine valueOf_ok (g := fun args => ReflectliteValue.unpack (args.getD 0 (.tuple #[]))) Tryd.func19 (by kernel_rfl) (by kernel_rfl) (by kernel_rfl) (by kernel_rfl) fun x hx => ?_
  simp only [List.mem_cons, List.mem_nil_iff, or_false] at hx
  rcases hx with rfl | rfl | rfl | rfl
  · exact alloc_one fun v w => by kernel_rfl
  · exact alloc_one fun v w => by kernel_rfl
  · exact alloc_one fun v w => by kernel_rfl
  · exact alloc_one fun v w => by kernel_rfl

theorem sum20 : SumOk Tryd.prog 20 (vtypeA Tryd.prog.globals.size 67 [(33, 150), (50, 150)]) := by
  refine vtype_ok (g := ReflectliteValue.methodAny (ReflectliteValue.valueError "reflectlite.Value.Type" 0) fun t _ _ _ => ReflectliteType.toType t) Tryd.func20 (by kernel_rfl) (by kernel_rfl) (by kernel_rfl) (by kernel_rfl) fun x hx => ?_
  simp only [List.mem_cons, List.mem_nil_iff, or_false] at hx
  rcases hx with rfl | rfl
  · intro a w; kernel_rfl
  · intro a w; kernel_rfl

theorem rlm (z : Sem Value) (f : TypeId → Addr → Nat → Nat → Sem Value) (v : Value) :
    ReflectliteValue.method z f #[v] = (do match ← ReflectliteValue.parts v with | none => z | some (t, a, fl) => f t a fl (fl % 32)) := rfl

theorem parts33 (a : Addr) (w : World) : (ReflectliteValue.parts (.agg #[typeHandle Tryd.prog 33, .pointer (some a), .int .u64 150])).run Tryd.prog w = .ok (some (33, a, 150)) w := by kernel_rfl
theorem parts50 (a : Addr) (w : World) : (ReflectliteValue.parts (.agg #[typeHandle Tryd.prog 50, .pointer (some a), .int .u64 150])).run Tryd.prog w = .ok (some (50, a, 150)) w := by kernel_rfl
theorem parts31a (a : Addr) (w : World) : (ReflectliteValue.parts (.agg #[typeHandle Tryd.prog 31, .pointer (some a), .int .u64 406])).run Tryd.prog w = .ok (some (31, a, 406)) w := by kernel_rfl
theorem parts31 (a : Addr) (w : World) : (ReflectliteValue.parts (.agg #[typeHandle Tryd.prog 31, .pointer (some a), .int .u64 150])).run Tryd.prog w = .ok (some (31, a, 150)) w := by kernel_rfl
theorem parts27a (a : Addr) (w : World) : (ReflectliteValue.parts (.agg #[typeHandle Tryd.prog 27, .pointer (some a), .int .u64 386])).run Tryd.prog w = .ok (some (27, a, 386)) w := by kernel_rfl
theorem parts27 (a : Addr) (w : World) : (ReflectliteValue.parts (.agg #[typeHandle Tryd.prog 27, .pointer (some a), .int .u64 130])).run Tryd.prog w = .ok (some (27, a, 130)) w := by kernel_rfl
theorem elemOf33 (w : World) : (Rtype.elem? 33).run Tryd.prog w = .ok (some 31) w := by kernel_rfl
theorem elemOf50 (w : World) : (Rtype.elem? 50).run Tryd.prog w = .ok (some 27) w := by kernel_rfl
theorem mk31 (p : Addr) (w : World) : (ReflectliteValue.mk 31 p ReflectliteValue.flagAddr).run Tryd.prog w = .ok (.agg #[typeHandle Tryd.prog 31, .pointer (some p), .int .u64 406]) w := by kernel_rfl
theorem mk27 (p : Addr) (w : World) : (ReflectliteValue.mk 27 p ReflectliteValue.flagAddr).run Tryd.prog w = .ok (.agg #[typeHandle Tryd.prog 27, .pointer (some p), .int .u64 386]) w := by kernel_rfl

theorem sum21 : SumOk Tryd.prog 21 (visNilA Tryd.prog.globals.size [(33, 150), (50, 150)]) := by
  refine visNil_ok (g := ReflectliteValue.method (ReflectliteValue.valueError "reflectlite.Value.IsNil" 0) ReflectliteValue.isNil) Tryd.func21 (by kernel_rfl) (by kernel_rfl) (by kernel_rfl) (by kernel_rfl) fun x hx => ?_
  simp only [List.mem_cons, List.mem_nil_iff, or_false] at hx
  rcases hx with rfl | rfl
  · intro a p w ha
    rw [rlm]
    simp only [Sem.run_bind, parts33, Result.andThen]
    simp [ReflectliteValue.isNil, loadVar, isAgg, underlying, Tryd.underlying33, ha, Result.andThen]
  · intro a p w ha
    rw [rlm]
    simp only [Sem.run_bind, parts50, Result.andThen]
    simp [ReflectliteValue.isNil, loadVar, isAgg, underlying, Tryd.underlying50, ha, Result.andThen]

theorem sum24 : SumOk Tryd.prog 24 (velemA Tryd.prog.globals.size [((33, 150), (31, 406)), ((50, 150), (27, 386))]) := by
  refine velem_ok (g := ReflectliteValue.method (ReflectliteValue.valueError "reflectlite.Value.Elem" 0) ReflectliteValue.elem) Tryd.func24 (by kernel_rfl) (by kernel_rfl) (by kernel_rfl) (by kernel_rfl) fun x hx => ?_
  simp only [List.mem_cons, List.mem_nil_iff, or_false] at hx
  rcases hx with rfl | rfl
  · intro a p w ha
    rw [rlm]
    simp only [Sem.run_bind, parts33, Result.andThen]
    simp [ReflectliteValue.elem, loadVar, isAgg, underlying, Tryd.underlying33, ha, Result.andThen, elemOf33, mk31]
  · intro a p w ha
    rw [rlm]
    simp only [Sem.run_bind, parts50, Result.andThen]
    simp [ReflectliteValue.elem, loadVar, isAgg, underlying, Tryd.underlying50, ha, Result.andThen, elemOf50, mk27]

theorem rls (v x : Value) : ReflectliteValue.set #[v, x] = (do
    let (some (dst, a, fl), some (src, b, _)) := (← ReflectliteValue.parts v, ← ReflectliteValue.parts x)
      | unsupported (.noEntry "extern/(internal/reflectlite.Value).Set.zeroValue")
    if fl / ReflectliteValue.flagAddr % 2 == 0 then unsupported (.noEntry "extern/(internal/reflectlite.Value).Set.unaddressable")
    let val ← loadVar src b
    if ← Rtype.directlyAssignable dst src then storeVar dst a val
    else if ← Rtype.implements dst src then
      if (← Rtype.kind src) == 20 then
        match val with
        | .nilIface => unsupported (.noEntry "extern/reflectlite: a nil value of one interface type handed on as a value of another")
        | _ => storeVar dst a val
      else storeVar dst a (.iface src val)
    else panicString ("reflectlite.Set: value of type " ++ (← Rtype.spelt src) ++ " is not assignable to type " ++ (← Rtype.spelt dst))
    pure (.tuple #[])) := rfl
theorem direct31 (w : World) : (Rtype.directlyAssignable 31 31).run Tryd.prog w = .ok true w := by kernel_rfl
theorem direct27 (w : World) : (Rtype.directlyAssignable 27 27).run Tryd.prog w = .ok true w := by kernel_rfl
theorem size31 (w : World) : (sizeOf 31).run Tryd.prog w = .ok 1 w := by kernel_rfl
theorem size27 (w : World) : (sizeOf 27).run Tryd.prog w = .ok 1 w := by kernel_rfl

theorem cells_one {v : Value} (h : v.oneCell' = true) : v.cells = #[v] := by cases v <;> first | rfl | (cases h)

theorem sum25 : SumOk Tryd.prog 25 (vsetA Tryd.prog.globals.size [(31, 406, 150), (27, 386, 130)]) := by
  refine vset_ok (g := ReflectliteValue.set) Tryd.func25 (by kernel_rfl) (by kernel_rfl) (by kernel_rfl) (by kernel_rfl) fun x hx => ?_
  simp only [List.mem_cons, List.mem_nil_iff, or_false] at hx
  rcases hx with rfl | rfl
  · intro a b y w w' hb ho hs
    rw [rls]
    simp only [Sem.run_bind, parts31a, parts31, Result.andThen]
    simp [ReflectliteValue.flagAddr, loadVar, isAgg, underlying, Tryd.underlying31, hb, Result.andThen, direct31, storeVar, cells_one ho, hs]
  · intro a b y w w' hb ho hs
    rw [rls]
    simp only [Sem.run_bind, parts27a, parts27, Result.andThen]
    simp [ReflectliteValue.flagAddr, loadVar, isAgg, underlying, Tryd.underlying27, hb, Result.andThen, direct27, storeVar, cells_one ho, hs]

theorem plain_bool (b : Bool) : PlainH Tryd.prog (.bool b) := .inl ⟨b, rfl⟩
theorem plain_int (k : IntKind) (n : Int) : PlainH Tryd.prog (.int k n) := .inr (.inl ⟨k, n, rfl⟩)
theorem plain_type (t : Nat) : PlainH Tryd.prog (.iface 67 (.agg #[hT Tryd.prog.globals.size t])) := .inr (.inr ⟨67, t, rfl⟩)

theorem sum40 : SumOk Tryd.prog 40 (abiA Tryd.prog.globals.size [(33, .int .u8 22), (50, .int .u8 22), (31, .int .u8 22), (27, .int .u8 2)]) := by
  refine abi_ok (g := ReflectliteType.abiMethod fun t => do pure (.int .u8 (← Rtype.kind t))) Tryd.func40 (by kernel_rfl) (by kernel_rfl) (by kernel_rfl) (by kernel_rfl) fun x hx => ?_
  simp only [List.mem_cons, List.mem_nil_iff, or_false] at hx
  rcases hx with rfl | rfl | rfl | rfl
  · exact ⟨fun w => by kernel_rfl, plain_int _ _⟩
  · exact ⟨fun w => by kernel_rfl, plain_int _ _⟩
  · exact ⟨fun w => by kernel_rfl, plain_int _ _⟩
  · exact ⟨fun w => by kernel_rfl, plain_int _ _⟩

theorem sum66 : SumOk Tryd.prog 66 (methA Tryd.prog.globals.size [(33, .iface 67 (.agg #[hT Tryd.prog.globals.size 31])), (50, .iface 67 (.agg #[hT Tryd.prog.globals.size 27]))]) := by
  refine meth_ok (g := ReflectliteType.method ReflectliteType.elem) Tryd.func66 (by kernel_rfl) (by kernel_rfl) (by kernel_rfl) (by kernel_rfl) fun x hx => ?_
  simp only [List.mem_cons, List.mem_nil_iff, or_false] at hx
  rcases hx with rfl | rfl
  · exact ⟨fun w => by kernel_rfl, plain_type _⟩
  · exact ⟨fun w => by kernel_rfl, plain_type _⟩

theorem sum65 : SumOk Tryd.prog 65 (methA Tryd.prog.globals.size [(27, .bool true), (31, .bool true)]) := by
  refine meth_ok (g := ReflectliteType.method fun t => do Rtype.noPackHeld "Comparable" t; pure (.bool (← typeInfo t).comparable)) Tryd.func65 (by kernel_rfl) (by kernel_rfl) (by kernel_rfl) (by kernel_rfl) fun x hx => ?_
  simp only [List.mem_cons, List.mem_nil_iff, or_false] at hx
  rcases hx with rfl | rfl
  · exact ⟨fun w => by kernel_rfl, plain_bool _⟩
  · exact ⟨fun w => by kernel_rfl, plain_bool _⟩

theorem sum67 : SumOk Tryd.prog 67 (relA Tryd.prog.globals.size 67 [(31, 24, true), (27, 24, true)]) := by
  refine rel_ok (g := ReflectliteType.relation "Implements" ReflectliteType.implements_) Tryd.func67 (by kernel_rfl) (by kernel_rfl) (by kernel_rfl) (by kernel_rfl) fun x hx => ?_
  simp only [List.mem_cons, List.mem_nil_iff, or_false] at hx
  rcases hx with rfl | rfl
  · intro w; kernel_rfl
  · intro w; kernel_rfl

theorem sum64 : SumOk Tryd.prog 64 (relA Tryd.prog.globals.size 67 [(31, 31, true), (27, 27, true), (31, 27, false), (27, 31, false)]) := by
  refine rel_ok (g := ReflectliteType.relation "AssignableTo" ReflectliteType.assignableTo) Tryd.func64 (by kernel_rfl) (by kernel_rfl) (by kernel_rfl) (by kernel_rfl) fun x hx => ?_
  simp only [List.mem_cons, List.mem_nil_iff, or_false] at hx
  rcases hx with rfl | rfl | rfl | rfl
  · intro w; kernel_rfl
  · intro w; kernel_rfl
  · intro w; kernel_rfl
  · intro w; kernel_rfl

end Go.Proofs.YtjefcmlnclnbeaaDoor.vc
