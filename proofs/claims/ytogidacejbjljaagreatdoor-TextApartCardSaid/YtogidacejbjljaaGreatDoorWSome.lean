/- Two words of the print that stand in a module of which nothing else is needed. -/
import Derived.Test.YtogidacejbjljaaGreatDoorWWords
import Derived.Test.YtogidacejbjljaaGreatDoorWLast
namespace Go.Proofs.YtogidacejbjljaaGreatDoorW.PrintMore
theorem stands : True := trivial
end Go.Proofs.YtogidacejbjljaaGreatDoorW.PrintMore
namespace Go.Proofs.YtogidacejbjljaaGreatDoorW.PrintWords
open Go.RowKit
section
variable {P : Program} {ops : Array Oper} {rest : List Oper} {o : Oper} {a : Act} {Q : Exit → Act → World → Prop} {W : World}
theorem gate_callee {f : FuncId} {as : Array Operand} {ts : Array TypeId} (_ho : o.op = .call { callee := .value (.func f), args := as, argTypes := ts }) (h : wpList P ops Q (o :: rest) a W) : wpList P ops Q (o :: rest) a W := h
theorem gate_builtin {b : Builtin} {xs : Array Operand} {ts : Array TypeId} (_ho : o.op = .call { callee := .builtin b, args := xs, argTypes := ts }) (h : wpList P ops Q (o :: rest) a W) : wpList P ops Q (o :: rest) a W := h
end
end Go.Proofs.YtogidacejbjljaaGreatDoorW.PrintWords
