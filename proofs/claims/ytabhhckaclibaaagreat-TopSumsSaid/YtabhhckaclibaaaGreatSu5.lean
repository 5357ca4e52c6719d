/- What the functions of sums tell, at their arguments: part 5. -/
import Derived.Test.YtabhhckaclibaaaGreatSu3
set_option linter.all false
set_option maxRecDepth 100000
set_option maxHeartbeats 4000000
namespace Go.Proofs.YtabhhckaclibaaaGreat
open Go.Eng

theorem partsC (n : Nat) (tg ta tb tc : Tag) (a b c : List UInt8) : (call T (n + 4000) (.fn 18) [.iv (.rsl tg [[.rsl ta (bR a)], [.rsl tb (bR b)], [.rsl tc (bR c)]])] .empty).map Prod.fst = some (.iv (.b true)) := by
  have hf := call_fn (T := T) (f := 18) (fn := a18) (by kernel_rfl) (by kernel_rfl)
  have aw := fun q => isoAw aw02 (n + 3919) q
  have s0 : ∀ q, isoCall (call T (n + 3999)) [] q (.fn 64) [.iv (.rsl .n [])] = some (.iv (.i .u32 (packP (pairOf []))), []) := fun q => isoSum (n + 3999) (by omega) .n [] (by simp) q
  have w1 : IntKind.i64.wrap 1 = 1 := by decide
  have w2 : IntKind.i64.wrap 2 = 2 := by decide
  have w3 : IntKind.i64.wrap 3 = 3 := by decide
  by_cases h1 : 300 < (a.length : Int)
  · simp -implicitDefEqProofs (maxSteps := 2000000) [hf, a18, Go.Eng.C.v, Go.Eng.C.vg, Go.Eng.C.vh, Go.Eng.C.l, Go.Eng.C.lg, Go.Eng.C.lh, Go.Eng.C.f, Go.Eng.C.fg, Go.Eng.C.fh, Go.Eng.C.o, Go.Eng.C.og, Go.Eng.C.oh, Go.Eng.C.k, Go.Eng.C.kg, Go.Eng.C.kh, Go.Eng.C.s, Go.Eng.C.sg, Go.Eng.C.sh, run_skip, run_label, run_ret, run_exit, run_goto, run_seq, run_reg, run_cond, run_blk, run_loop, run_scope, run_forget, seqK_nrm, seqK_ret, seqK_exit, seqK_goto, loopK_nrm, loopK_ret, loopK_exit, loopK_goto, loop_step, jump_nrm, jump_ret, jump_exit, jump_goto, condK_true, condK_false, exitTo_nrm, exitTo_ret, exitTo_goto, exitTo_exit, callK_nrm, callK_ret, execs_nil, execs_cons, exec1, opV, AOp.cls, evalP, evalR, evalN, evalW, guardOf, setD, Eng.X.ev, bump0, List.replicate, Eng.results, resVal, cellsO, addAll, AH.add, AH.get, lk, AH.set, up, AH.del, Eng.del, fieldAddr, loadAt, storeAt, rowsOf, partV, AH.empty, AH.bump, calleeOf, shift, shiftC, binV, binI, partsOf, fillA, List.range, List.range.loop, aw, s0, bR_len, indexAddr, inRange, h1]
  have s1 := fun tg q => isoSum (n + 3999) (by omega) tg a (by omega) q
  have j1 := fun q => isoJoin (n + 3999) (by omega) q [] a (a.length : Int) rfl (by omega)
  have r1 : roomy a.length 1 = true := roomy_small (by omega)
  rw [List.nil_append] at j1
  by_cases h2 : 300 < (b.length : Int)
  · simp -implicitDefEqProofs (maxSteps := 2000000) [hf, a18, Go.Eng.C.v, Go.Eng.C.vg, Go.Eng.C.vh, Go.Eng.C.l, Go.Eng.C.lg, Go.Eng.C.lh, Go.Eng.C.f, Go.Eng.C.fg, Go.Eng.C.fh, Go.Eng.C.o, Go.Eng.C.og, Go.Eng.C.oh, Go.Eng.C.k, Go.Eng.C.kg, Go.Eng.C.kh, Go.Eng.C.s, Go.Eng.C.sg, Go.Eng.C.sh, run_skip, run_label, run_ret, run_exit, run_goto, run_seq, run_reg, run_cond, run_blk, run_loop, run_scope, run_forget, seqK_nrm, seqK_ret, seqK_exit, seqK_goto, loopK_nrm, loopK_ret, loopK_exit, loopK_goto, loop_step, jump_nrm, jump_ret, jump_exit, jump_goto, condK_true, condK_false, exitTo_nrm, exitTo_ret, exitTo_goto, exitTo_exit, callK_nrm, callK_ret, execs_nil, execs_cons, exec1, opV, AOp.cls, evalP, evalR, evalN, evalW, guardOf, setD, Eng.X.ev, bump0, List.replicate, Eng.results, resVal, cellsO, addAll, AH.add, AH.get, lk, AH.set, up, AH.del, Eng.del, fieldAddr, loadAt, storeAt, rowsOf, partV, AH.empty, AH.bump, calleeOf, shift, shiftC, binV, binI, partsOf, fillA, List.range, List.range.loop, aw, s0, bR_len, indexAddr, inRange, h1, s1, j1, r1, appendRows, rowsRead, bR_uni, bR_map, byteRows_len, take_bytes, w1, h2]
  have s2 := fun tg q => isoSum (n + 3999) (by omega) tg b (by omega) q
  have j2 := fun q => isoJoin (n + 3999) (by omega) q a b (b.length : Int) rfl (by omega)
  have r2 : roomy (a.length + b.length) 1 = true := roomy_small (by omega)
  by_cases h3 : 300 < (c.length : Int)
  · simp -implicitDefEqProofs (maxSteps := 2000000) [hf, a18, Go.Eng.C.v, Go.Eng.C.vg, Go.Eng.C.vh, Go.Eng.C.l, Go.Eng.C.lg, Go.Eng.C.lh, Go.Eng.C.f, Go.Eng.C.fg, Go.Eng.C.fh, Go.Eng.C.o, Go.Eng.C.og, Go.Eng.C.oh, Go.Eng.C.k, Go.Eng.C.kg, Go.Eng.C.kh, Go.Eng.C.s, Go.Eng.C.sg, Go.Eng.C.sh, run_skip, run_label, run_ret, run_exit, run_goto, run_seq, run_reg, run_cond, run_blk, run_loop, run_scope, run_forget, seqK_nrm, seqK_ret, seqK_exit, seqK_goto, loopK_nrm, loopK_ret, loopK_exit, loopK_goto, loop_step, jump_nrm, jump_ret, jump_exit, jump_goto, condK_true, condK_false, exitTo_nrm, exitTo_ret, exitTo_goto, exitTo_exit, callK_nrm, callK_ret, execs_nil, execs_cons, exec1, opV, AOp.cls, evalP, evalR, evalN, evalW, guardOf, setD, Eng.X.ev, bump0, List.replicate, Eng.results, resVal, cellsO, addAll, AH.add, AH.get, lk, AH.set, up, AH.del, Eng.del, fieldAddr, loadAt, storeAt, rowsOf, partV, AH.empty, AH.bump, calleeOf, shift, shiftC, binV, binI, partsOf, fillA, List.range, List.range.loop, aw, s0, bR_len, indexAddr, inRange, h1, s1, j1, r1, s2, j2, r2, appendRows, rowsRead, bR_uni, bR_map, byteRows_len, take_bytes, byteRows_app, w1, w2, h2, h3]
  have s3 := fun tg q => isoSum (n + 3999) (by omega) tg c (by omega) q
  have j3 := fun q => isoJoin (n + 3999) (by omega) q (a ++ b) c (c.length : Int) rfl (by omega)
  have r3 : roomy (a.length + b.length + c.length) 1 = true := roomy_small (by omega)
  have t1 := fun m bb r => isoSumSl (n + 3999) (by omega) m bb (a.length + b.length + c.length) none r (a ++ b ++ c) (by rw [List.length_append, List.length_append]; omega) (by rw [List.length_append, List.length_append]; omega)
  have k1 : (a ++ b ++ c).take (a.length + b.length + c.length) = a ++ b ++ c := List.take_of_length_le (by rw [List.length_append, List.length_append]; omega)
  rw [k1] at t1
  rw [List.append_assoc] at t1 j3
  simp -implicitDefEqProofs (maxSteps := 2000000) [hf, a18, Go.Eng.C.v, Go.Eng.C.vg, Go.Eng.C.vh, Go.Eng.C.l, Go.Eng.C.lg, Go.Eng.C.lh, Go.Eng.C.f, Go.Eng.C.fg, Go.Eng.C.fh, Go.Eng.C.o, Go.Eng.C.og, Go.Eng.C.oh, Go.Eng.C.k, Go.Eng.C.kg, Go.Eng.C.kh, Go.Eng.C.s, Go.Eng.C.sg, Go.Eng.C.sh, run_skip, run_label, run_ret, run_exit, run_goto, run_seq, run_reg, run_cond, run_blk, run_loop, run_scope, run_forget, seqK_nrm, seqK_ret, seqK_exit, seqK_goto, loopK_nrm, loopK_ret, loopK_exit, loopK_goto, loop_step, jump_nrm, jump_ret, jump_exit, jump_goto, condK_true, condK_false, exitTo_nrm, exitTo_ret, exitTo_goto, exitTo_exit, callK_nrm, callK_ret, execs_nil, execs_cons, exec1, opV, AOp.cls, evalP, evalR, evalN, evalW, guardOf, setD, Eng.X.ev, bump0, List.replicate, Eng.results, resVal, cellsO, addAll, AH.add, AH.get, lk, AH.set, up, AH.del, Eng.del, fieldAddr, loadAt, storeAt, rowsOf, partV, AH.empty, AH.bump, calleeOf, shift, shiftC, binV, binI, partsOf, fillA, List.range, List.range.loop, aw, s0, bR_len, indexAddr, inRange, h1, s1, j1, r1, s2, j2, r2, s3, j3, r3, t1, appendRows, rowsRead, bR_uni, bR_map, byteRows_len, take_bytes, byteRows_app, w1, w2, w3, h2, h3]

end Go.Proofs.YtabhhckaclibaaaGreat
