/-
  Quotients and remainders; no condition.
-/
import Derived.Test.YtahbpehdjbmndaaGreatDoorEvUse
namespace Go.Ev
variable {P : Program} {orc : Orc} {h : AHeap} {K : OpK}
theorem slot_eq {a : Operand} {tm : T Value} {v : Value} (ha : val? P a tm = some v) : slot P tm a = v := by simp [slot, ha]
theorem OpW.quo {t y : TypeId} {a b : Operand} {o : Oper} {tm : T Value} {r : Option Value} {n d : Nat} (ho : o.op = .binOp .quo t a b y) (ha : val? P a tm = some (.int .i64 (n : Int))) (hb : val? P b tm = some (.int .i64 (d : Int)))
    (hd : 0 < d) (hn : n ≤ 9223372036854775807) (hr : r = none) (hk : K (.int .i64 ((n / d : Nat) : Int)) h) : OpW (orGen r P o tm h) K := by
  have hle : n / d ≤ n := Nat.div_le_self _ _
  have he : IntKind.i64.wrap ((n : Int).tdiv (d : Int)) = ((n / d : Nat) : Int) := by
    rw [Int.tdiv_eq_ediv_of_nonneg (by omega), ← Int.natCast_ediv]
    generalize n / d = q at hle
    exact wrap_small (by constructor <;> omega)
  refine OpW.gen' (vs := [.int .i64 n, .int .i64 d]) hr (by rw [ho]; simp [Op.operands, vals?, ha, hb]) rfl (by rw [ho]; rfl) ?_ rfl hk
  have hd0 : ¬ ((d : Int) = 0) := by omega
  have hd1 : ¬ (d = 0) := by omega
  have hq : quick P (execOp (slot P tm) o) = some (.value (.int .i64 (IntKind.i64.wrap ((n : Int).tdiv (d : Int))))) := by
    simp only [execOp, ho, slot_eq ha, slot_eq hb]
    simp [eqGuard, binOp, Op.intDiv, hd1, quick, bind, Sem.bind, pure]
  rw [hq, he]
theorem OpW.rem {t y : TypeId} {a b : Operand} {o : Oper} {tm : T Value} {r : Option Value} {n d : Nat} (ho : o.op = .binOp .rem t a b y) (ha : val? P a tm = some (.int .i64 (n : Int))) (hb : val? P b tm = some (.int .i64 (d : Int)))
    (hd : 0 < d) (hr : r = none) (hk : K (.int .i64 ((n % d : Nat) : Int)) h) : OpW (orGen r P o tm h) K := by
  have he : (n : Int).tmod (d : Int) = ((n % d : Nat) : Int) := by
    rw [Int.tmod_eq_emod_of_nonneg (by omega), ← Int.natCast_emod]
  refine OpW.gen' (vs := [.int .i64 n, .int .i64 d]) hr (by rw [ho]; simp [Op.operands, vals?, ha, hb]) rfl (by rw [ho]; rfl) ?_ rfl hk
  have hd0 : ¬ ((d : Int) = 0) := by omega
  have hd1 : ¬ (d = 0) := by omega
  simp [execOp, ho, eqGuard, binOp, Op.intDiv, slot_eq ha, slot_eq hb, hd0, hd1, he, quick, bind, Sem.bind, pure]
end Go.Ev
