/- Options, as they are handed. -/
import Derived.Test.YtjjppmbojcgdgaaGreatDoorJ15
import Derived.Test.YtjjppmbojcgdgaaGreatDoorOfn
set_option linter.unusedVariables false
set_option linter.unusedSimpArgs false
set_option maxRecDepth 100000
set_option maxHeartbeats 4000000
namespace Go.Opn
open Go Go.Abs
theorem Sized.of_each {H : Type} {P : Program} {ts : List TypeId} {ds : List (DataW H)} (h : (DataW.weightsEach P ts ds).all (· ≤ reachBytes) = true) {i : Nat} {t : TypeId} {d : DataW H} (ht : ts[i]? = some t) (hd : ds[i]? = some d) : Sized P t d := fun w hw => by
 have := List.all_eq_true.1 h w (weightsEach_mem ht hd hw)
 simpa using this
end Go.Opn
namespace Go.Proofs.YtjjppmbojcgdgaaGreatDoor
open Go Go.Abs Go.Opn
def i64ok (z : Int) : Prop := -9223372036854775808 ≤ z ∧ z ≤ 9223372036854775807
theorem wf64 {z : Int} (h : (Lit.int .i64 z).wf = true) : i64ok z := by
 rw [Lit.wf, Bool.and_eq_true] at h
 have h2 : (-9223372036854775808 : Int) ≤ z := of_decide_eq_true h.1
 have h3 : z ≤ (9223372036854775807 : Int) := of_decide_eq_true h.2
 exact ⟨h2, h3⟩
theorem oI64 {t : TypeId} (hu : Tryz.prog.underlying t = some (.int .i64)) (hc : Tryz.prog.cellsOf t = 1) : Opnd Tryz.prog t 1 (fun z : Int => [.int .i64 z]) i64ok := (Opnd.int hu hc).map id (fun _ => rfl) (fun _ h => wf64 h)
theorem oBool : Opnd Tryz.prog 4 1 (fun z : Bool => [.bool z]) (fun _ => True) := Opnd.bool Tryz.underlying4 (by kernel_rfl)
theorem oStyle : Opnd Tryz.prog 98 1 (fun z : Int => [.int .i64 z]) i64ok := oI64 Tryz.underlying98 (by kernel_rfl)
theorem oCompact : Opnd Tryz.prog 99 1 (fun z : Int => [.int .i64 z]) i64ok := oI64 Tryz.underlying99 (by kernel_rfl)
theorem oSym : Opnd Tryz.prog 100 1 (fun z : Int => [.int .i64 z]) i64ok := oI64 Tryz.underlying100 (by kernel_rfl)
theorem oMode : Opnd Tryz.prog 101 1 (fun z : Int => [.int .i64 z]) i64ok := oI64 Tryz.underlying101 (by kernel_rfl)
theorem oKind4 : Opnd Tryz.prog 102 1 (fun z : Int => [.int .i64 z]) i64ok := oI64 Tryz.underlying102 (by kernel_rfl)
theorem oNum : Opnd Tryz.prog 3 1 (fun z : Int => [.int .i64 z]) i64ok := oI64 Tryz.underlying3 (by kernel_rfl)
theorem oDec : Opnd Tryz.prog 104 3 TDec.cells (fun x => x.digits.length ≤ 140737488355328) := by
 have h := Opnd.struct (n := 1 + (1 + (1 + 0))) Tryz.underlying104 (by kernel_rfl) (OpndFs.cons oBool rfl (OpndFs.cons oStr rfl (OpndFs.cons oNum rfl (OpndFs.nil _))))
 exact h.map (fun x => (⟨x.1, x.2.1, x.2.2.1⟩ : TDec)) (fun _ => rfl) (fun x h => reach_le h.2.1)
def TPrec.wf (p : TPrec) : Prop := i64ok p.kind ∧ i64ok p.min ∧ i64ok p.max ∧ p.inc.digits.length ≤ 140737488355328 ∧ i64ok p.mode ∧ i64ok p.minInt
theorem oPrec : Opnd Tryz.prog 106 8 TPrec.cells TPrec.wf := by
 have h := Opnd.struct (n := 1 + (1 + (1 + (3 + (1 + (1 + 0)))))) Tryz.underlying106 (by kernel_rfl) (OpndFs.cons oKind4 rfl (OpndFs.cons oNum rfl (OpndFs.cons oNum rfl (OpndFs.cons oDec rfl (OpndFs.cons oMode rfl (OpndFs.cons oNum rfl (OpndFs.nil _)))))))
 exact h.map (fun x => (⟨x.1, x.2.1, x.2.2.1, x.2.2.2.1, x.2.2.2.2.1, x.2.2.2.2.2.1⟩ : TPrec)) (fun _ => rfl) (fun x h => ⟨h.1, h.2.1, h.2.2.1, h.2.2.2.1, h.2.2.2.2.1, h.2.2.2.2.2.1⟩)
structure TOpt.wf (o : TOpt) : Prop where
 st : i64ok o.style
 co : i64ok o.compact
 cd : o.code.length ≤ 140737488355328
 un : o.unit.length ≤ 140737488355328
 sy : i64ok o.sym
 mo : i64ok o.mode
 pr : o.prec.wf
theorem oOpts : Opnd Tryz.prog 108 17 TOpt.cells TOpt.wf := by
 have h := Opnd.struct (n := 1 + (1 + (1 + (1 + (1 + (1 + (1 + (1 + (8 + (1 + 0)))))))))) Tryz.underlying108 (by kernel_rfl)
  (OpndFs.cons oStyle rfl (OpndFs.cons oCompact rfl (OpndFs.cons oStr rfl (OpndFs.cons oStr rfl (OpndFs.cons oSym rfl (OpndFs.cons oBool rfl (OpndFs.cons oMode rfl (OpndFs.cons oBool rfl (OpndFs.cons oPrec rfl (OpndFs.cons oBool rfl (OpndFs.nil _)))))))))))
 exact h.map (fun x => (⟨x.1, x.2.1, x.2.2.1, x.2.2.2.1, x.2.2.2.2.1, x.2.2.2.2.2.1, x.2.2.2.2.2.2.1, x.2.2.2.2.2.2.2.1, x.2.2.2.2.2.2.2.2.1, x.2.2.2.2.2.2.2.2.2.1⟩ : TOpt)) (fun _ => rfl)
  (fun x h => ⟨h.1, h.2.1, reach_le h.2.2.1, reach_le h.2.2.2.1, h.2.2.2.2.1, h.2.2.2.2.2.2.1, h.2.2.2.2.2.2.2.2.1⟩)
end Go.Proofs.YtjjppmbojcgdgaaGreatDoor
