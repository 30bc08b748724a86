/- Contract: the currents of the document's example. The loops are unrolled. Printed by a program (gen_cur.py). -/
import Derived.Test.YtpdkbhjcpddnpaaGreatDoorNM
import Derived.Test.YtpdkbhjcpddnpaaGreatDoorNA

section
namespace Go.Proofs.YtpdkbhjcpddnpaaGreatDoor
open Go.RowKit
attribute [local go_sem ↓] Go.wp_at_zero Go.wp_at_succ

theorem mk2 (W : World) : Sem.run Tryz.prog (Instr.makeSlice 27 (.int .i64 2) (.int .i64 2)) W = .ok (.slice (some ⟨W.heap.size, 0, none⟩) 2 2) (W.alloc (.cells #[.int .i64 0, .int .i64 0, .int .i64 0, .int .i64 0, .int .i64 0, .int .i64 0, .int .i64 0, .int .i64 0] 90)) := by kernel_rfl
attribute [local go_sem] mk2

theorem pp_at0 (W : World) : Sem.run Tryz.prog (Instr.index 109 (.agg #[.func (.func 86) #[] #[], .func (.func 87) #[] #[], .func (.func 88) #[] #[], .func (.func 89) #[] #[]]) (.int .i64 0)) W = .ok (.agg #[.func (.func 86) #[] #[], .func (.func 87) #[] #[]]) W := by kernel_rfl
theorem pp_at1 (W : World) : Sem.run Tryz.prog (Instr.index 109 (.agg #[.func (.func 86) #[] #[], .func (.func 87) #[] #[], .func (.func 88) #[] #[], .func (.func 89) #[] #[]]) (.int .i64 1)) W = .ok (.agg #[.func (.func 88) #[] #[], .func (.func 89) #[] #[]]) W := by kernel_rfl
attribute [local go_sem] pp_at0 pp_at1

end Go.Proofs.YtpdkbhjcpddnpaaGreatDoor
end
