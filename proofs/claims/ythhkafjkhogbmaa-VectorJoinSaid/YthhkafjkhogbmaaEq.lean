/- '==' and '!=' between vectors and between ids, as the walk meets them. -/
import Derived.Test.YthhkafjkhogbmaaProg
import Derived.Test.YthhkafjkhogbmaaBase
namespace Go.Proofs.Ythhkafjkhogbmaa
open Go.RowKit

theorem undInt : Try.prog.underlying 3 = some (.int .i64) := by kernel_rfl
theorem aggInt (w : World) : (isAgg 3).run Try.prog w = .ok false w := by kernel_rfl
theorem sizeInt (w : World) : (sizeOf 3).run Try.prog w = .ok 1 w := by kernel_rfl
theorem undVec : Try.prog.underlying 23 = some (.array 2 3) := by kernel_rfl
theorem eqlIn_V (w : World) (N : Nat) (a b c d : Int) : (Op.equalIn (N + 2) 23 (.agg #[.int .i64 a, .int .i64 b]) (.agg #[.int .i64 c, .int .i64 d])).run Try.prog w = .ok (a == c && b == d) w := by
  have e := fun w a b => run_equalIn_int (P := Try.prog) w N 3 .i64 .i64 a b undInt
  rw [Op.equalIn]
  simp only [Sem.run_bind, run_underlying undVec, Result.andThen_ok, sizeInt]
  simp [Std.Legacy.Range.forIn_eq_forIn_range', List.range', part, Sem.run_bind, Sem.run_ite, e]
  cases h1 : (a == c) <;> cases h2 : (b == d) <;> simp_all
theorem eqlV (w : World) (a b c d : Int) : (binOp .eql 23 (.agg #[.int .i64 a, .int .i64 b]) (.agg #[.int .i64 c, .int .i64 d])).run Try.prog w = .ok (.bool (a == c && b == d)) w := by
  rw [run_eql_struct, eqlIn_V w 9998]; rfl
theorem neqV (w : World) (a b c d : Int) : (binOp .neq 23 (.agg #[.int .i64 a, .int .i64 b]) (.agg #[.int .i64 c, .int .i64 d])).run Try.prog w = .ok (.bool (!(a == c && b == d))) w := by
  rw [run_neq_struct, eqlIn_V w 9998]; rfl
theorem eqgV (w : World) (op : BinOp) (x y : Operand) (a b c d : Int) : (eqGuard op 23 x y (.agg #[.int .i64 a, .int .i64 b]) (.agg #[.int .i64 c, .int .i64 d])).run Try.prog w = .ok () w :=
  run_eqGuard_agg w op 23 x y _ _ (by kernel_rfl)
theorem fldId : (Try.prog.fieldsOf 25).toList.map (fun f => (f.name, f.type, f.offset)) = [("Region", 3, 0), ("Number", 3, 1)] := by kernel_rfl
theorem eqlIn_Id (w : World) (N : Nat) (a b c d : Int) : (Op.equalIn (N + 2) 25 (.agg #[.int .i64 a, .int .i64 b]) (.agg #[.int .i64 c, .int .i64 d])).run Try.prog w = .ok (a == c && b == d) w := by
  have e := fun w a b => run_equalIn_int (P := Try.prog) w N 3 .i64 .i64 a b undInt
  rw [run_equalIn_struct w _ 25 _ _ (by kernel_rfl) (by kernel_rfl)]
  have h := fldId
  generalize (Try.prog.fieldsOf 25).toList = fs at h
  obtain ⟨f, fs, rfl⟩ : ∃ f r, fs = f :: r := by cases fs <;> simp_all
  obtain ⟨g, fs, rfl⟩ : ∃ f r, fs = f :: r := by cases fs <;> simp_all
  obtain rfl : fs = [] := by cases fs <;> simp_all
  simp only [List.map_cons, List.map_nil, List.cons.injEq, Prod.mk.injEq, and_true] at h
  obtain ⟨⟨h1, h2, h3⟩, h4, h5, h6⟩ := h
  simp [Op.eqFields, h1, h2, h3, h4, h5, h6, part, Sem.run_bind, Sem.run_ite, e]
  cases h1 : (a == c) <;> cases h2 : (b == d) <;> simp_all
theorem eqlId (w : World) (a b c d : Int) : (binOp .eql 25 (.agg #[.int .i64 a, .int .i64 b]) (.agg #[.int .i64 c, .int .i64 d])).run Try.prog w = .ok (.bool (a == c && b == d)) w := by
  rw [run_eql_struct, eqlIn_Id w 9998]; rfl
theorem neqId (w : World) (a b c d : Int) : (binOp .neq 25 (.agg #[.int .i64 a, .int .i64 b]) (.agg #[.int .i64 c, .int .i64 d])).run Try.prog w = .ok (.bool (!(a == c && b == d))) w := by
  rw [run_neq_struct, eqlIn_Id w 9998]; rfl
theorem eqgId (w : World) (op : BinOp) (x y : Operand) (a b c d : Int) : (eqGuard op 25 x y (.agg #[.int .i64 a, .int .i64 b]) (.agg #[.int .i64 c, .int .i64 d])).run Try.prog w = .ok () w :=
  run_eqGuard_agg w op 25 x y _ _ (by kernel_rfl)

end Go.Proofs.Ythhkafjkhogbmaa
