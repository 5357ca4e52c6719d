/- TopSums tells yes. -/
import Derived.Test.YtabhhckaclibaaaGreatSu4
import Derived.Test.YtabhhckaclibaaaGreatSu5
set_option linter.all false
set_option maxRecDepth 100000
set_option maxHeartbeats 4000000
namespace Go.Proofs.YtabhhckaclibaaaGreat
open Go.Eng

theorem isoPartsSl (n m k : Nat) (cap : Option Nat) (r : List (Nat × Blk)) (ta tb tc : Tag) (a b c : List UInt8) : isoCall (call T (n + 4000)) [] ⟨m, (k, .cells 1 [[.iv (.rsl ta (bR a))], [.iv (.rsl tb (bR b))], [.iv (.rsl tc (bR c))]]) :: r⟩ (.fn 18) [.sl k 1 0 3 cap] = some (.iv (.b true), []) :=
  iso_b (args' := [.iv (.rsl .b [[.rsl (lt ta) (bR a)], [.rsl (lt tb) (bR b)], [.rsl (lt tc) (bR c)]])]) (by simp [mapO, lend_sl, toI_sl, rowsOf, AH.get, lk, toI_rsl]) (partsC n .b (lt ta) (lt tb) (lt tc) a b c)
theorem isoJoins (n : Nat) (q : AH) (ta tb tc : Tag) (a b c : List UInt8) : isoCall (call T (n + 4000)) [] q (.fn 16) [.iv (.rsl ta (bR a)), .iv (.rsl tb (bR b)), .iv (.rsl tc (bR c))] = some (.iv (.b true), []) :=
  iso_b (by simp only [mapO, lend_rsl, Option.bind_some, Option.map_some]) (joinsC n (lt ta) (lt tb) (lt tc) a b c)
theorem isoByte (n : Nat) (q : AH) (ta : Tag) (a : List UInt8) (x : Nat) (u : UInt8) (hx : x < 65536) : isoCall (call T (n + 4000)) [] q (.fn 17) [.iv (.rsl ta (bR a)), .iv (.i .u16 (x : Int)), .iv (.i .u8 (u.toNat : Int))] = some (.iv (.b true), []) :=
  iso_b (by simp only [mapO, lend_rsl, lend_i, Option.bind_some, Option.map_some]) (byteC n (lt ta) a x u hx)

theorem sumsC (n : Nat) (ta tb tc : Tag) (a b c : List UInt8) (x : Nat) (u : UInt8) (hx : x < 65536) : (call T (n + 4001) (.fn 5) [.iv (.rsl ta (bR a)), .iv (.rsl tb (bR b)), .iv (.rsl tc (bR c)), .iv (.i .u16 (x : Int)), .iv (.i .u8 (u.toNat : Int))] .empty).map Prod.fst = some (.iv (.b true)) := by
  have hf := call_fn (T := T) (f := 5) (fn := a5) (by kernel_rfl) (by kernel_rfl)
  have aw := fun q => isoAw awT (n + 3920) q
  have hb := fun q tg => isoByte n q tg a x u hx
  simp -implicitDefEqProofs (maxSteps := 2000000) [hf, a5, Go.Eng.C.v, Go.Eng.C.vg, Go.Eng.C.vh, Go.Eng.C.l, Go.Eng.C.lg, Go.Eng.C.lh, Go.Eng.C.f, Go.Eng.C.fg, Go.Eng.C.fh, Go.Eng.C.o, Go.Eng.C.og, Go.Eng.C.oh, Go.Eng.C.k, Go.Eng.C.kg, Go.Eng.C.kh, Go.Eng.C.s, Go.Eng.C.sg, Go.Eng.C.sh, run_skip, run_label, run_ret, run_exit, run_goto, run_seq, run_reg, run_cond, run_blk, run_loop, run_scope, run_forget, seqK_nrm, seqK_ret, seqK_exit, seqK_goto, loopK_nrm, loopK_ret, loopK_exit, loopK_goto, loop_step, jump_nrm, jump_ret, jump_exit, jump_goto, condK_true, condK_false, exitTo_nrm, exitTo_ret, exitTo_goto, exitTo_exit, callK_nrm, callK_ret, execs_nil, execs_cons, exec1, opV, AOp.cls, evalP, evalR, evalN, evalW, guardOf, setD, Eng.X.ev, bump0, List.replicate, Eng.results, resVal, cellsO, addAll, AH.add, AH.get, lk, AH.set, up, AH.del, Eng.del, fieldAddr, loadAt, storeAt, rowsOf, partV, AH.empty, AH.bump, calleeOf, shift, shiftC, binV, binI, partsOf, fillA, List.range, List.range.loop, aw, isoJoins, hb, isoPartsSl]

end Go.Proofs.YtabhhckaclibaaaGreat
