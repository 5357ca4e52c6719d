/- The laws of spans tell yes. -/
import Derived.Test.YtabhhckaclibaaaGreatSp6
import Derived.Test.YtabhhckaclibaaaGreatAw10
import Derived.Test.YtabhhckaclibaaaGreatAwT
set_option linter.all false
set_option maxRecDepth 100000
set_option maxHeartbeats 4000000
namespace Go.Proofs.YtabhhckaclibaaaGreat
open Go.Eng

theorem isoAw {f : Nat} (e : okB (call T 80 (.fn f) [] .empty) = true) (n : Nat) (q : AH) : isoCall (call T (n + 80)) [] q (.fn f) [] = some (.iv (.b true), []) := by
  obtain ⟨h', e'⟩ := okB_some e
  exact iso_b rfl (by rw [call_le (T := T) (show 80 ≤ n + 80 by omega) _ _ _ _ e']; rfl)

theorem isoOneN (n : Nat) (q : AH) (t : Int) : isoCall (call T (n + 1)) [] q (.fn 41) [.agg [.iv (.i .i64 t), .iv (.rsl .p (bR [])), .iv (.rsl .p (bR [])), .iv (.b true)], .agg [.iv (.i .i64 t), .iv (.rsl .n []), .iv (.rsl .n []), .iv (.b true)]] = some (.iv (.b true), []) :=
  (isoOne n q .p .p .n .n t [] [] true t [] [] true).trans (by simp)

theorem tellsC (n : Nat) (ta tb ta' tb' tk : Tag) (t : Int) (l h : List UInt8) (o : Bool) (t' : Int) (l' h' : List UInt8) (o' : Bool) (u : Int) (k : List UInt8) :
    (call T (n + 81) (.fn 10) [.agg [.iv (.i .i64 t), .iv (.rsl ta (bR l)), .iv (.rsl tb (bR h)), .iv (.b o)], .agg [.iv (.i .i64 t'), .iv (.rsl ta' (bR l')), .iv (.rsl tb' (bR h')), .iv (.b o')], .iv (.i .i64 u), .iv (.rsl tk (bR k))] .empty).map Prod.fst = some (.iv (.b true)) := by
  have hf := call_fn (T := T) (f := 10) (fn := a10) (by kernel_rfl) (by kernel_rfl)
  have aw := isoAw aw10
  have me := meets_eq t l h o t' l' h' o'
  cases s1 : shortS l h
  · simp -implicitDefEqProofs [hf, a10, Go.Eng.C.v, Go.Eng.C.vg, Go.Eng.C.vh, Go.Eng.C.l, Go.Eng.C.lg, Go.Eng.C.lh, Go.Eng.C.f, Go.Eng.C.fg, Go.Eng.C.fh, Go.Eng.C.o, Go.Eng.C.og, Go.Eng.C.oh, Go.Eng.C.k, Go.Eng.C.kg, Go.Eng.C.kh, Go.Eng.C.s, Go.Eng.C.sg, Go.Eng.C.sh, run_skip, run_label, run_ret, run_exit, run_goto, run_seq, run_reg, run_cond, run_blk, run_loop, run_scope, run_forget, seqK_nrm, seqK_ret, seqK_exit, seqK_goto, loopK_nrm, loopK_ret, loopK_exit, loopK_goto, loop_step, jump_nrm, jump_ret, jump_exit, jump_goto, condK_true, condK_false, exitTo_nrm, exitTo_ret, exitTo_goto, exitTo_exit, callK_nrm, callK_ret, execs_nil, execs_cons, exec1, opV, AOp.cls, evalP, evalR, evalN, evalW, guardOf, setD, Eng.X.ev, bump0, List.replicate, Eng.results, resVal, cellsO, addAll, AH.add, AH.get, lk, AH.set, up, AH.del, Eng.del, fieldAddr, loadAt, storeAt, rowsOf, partV, AH.empty, AH.bump, calleeOf, shift, shiftC, binV, binI, partsOf, fillA, List.range, List.range.loop, aw, isoShort, s1]
  cases s2 : shortS l' h'
  · simp -implicitDefEqProofs [hf, a10, Go.Eng.C.v, Go.Eng.C.vg, Go.Eng.C.vh, Go.Eng.C.l, Go.Eng.C.lg, Go.Eng.C.lh, Go.Eng.C.f, Go.Eng.C.fg, Go.Eng.C.fh, Go.Eng.C.o, Go.Eng.C.og, Go.Eng.C.oh, Go.Eng.C.k, Go.Eng.C.kg, Go.Eng.C.kh, Go.Eng.C.s, Go.Eng.C.sg, Go.Eng.C.sh, run_skip, run_label, run_ret, run_exit, run_goto, run_seq, run_reg, run_cond, run_blk, run_loop, run_scope, run_forget, seqK_nrm, seqK_ret, seqK_exit, seqK_goto, loopK_nrm, loopK_ret, loopK_exit, loopK_goto, loop_step, jump_nrm, jump_ret, jump_exit, jump_goto, condK_true, condK_false, exitTo_nrm, exitTo_ret, exitTo_goto, exitTo_exit, callK_nrm, callK_ret, execs_nil, execs_cons, exec1, opV, AOp.cls, evalP, evalR, evalN, evalW, guardOf, setD, Eng.X.ev, bump0, List.replicate, Eng.results, resVal, cellsO, addAll, AH.add, AH.get, lk, AH.set, up, AH.del, Eng.del, fieldAddr, loadAt, storeAt, rowsOf, partV, AH.empty, AH.bump, calleeOf, shift, shiftC, binV, binI, partsOf, fillA, List.range, List.range.loop, aw, isoShort, s1, s2]
  by_cases s3 : 100 < (k.length : Int)
  · simp -implicitDefEqProofs [hf, a10, Go.Eng.C.v, Go.Eng.C.vg, Go.Eng.C.vh, Go.Eng.C.l, Go.Eng.C.lg, Go.Eng.C.lh, Go.Eng.C.f, Go.Eng.C.fg, Go.Eng.C.fh, Go.Eng.C.o, Go.Eng.C.og, Go.Eng.C.oh, Go.Eng.C.k, Go.Eng.C.kg, Go.Eng.C.kh, Go.Eng.C.s, Go.Eng.C.sg, Go.Eng.C.sh, run_skip, run_label, run_ret, run_exit, run_goto, run_seq, run_reg, run_cond, run_blk, run_loop, run_scope, run_forget, seqK_nrm, seqK_ret, seqK_exit, seqK_goto, loopK_nrm, loopK_ret, loopK_exit, loopK_goto, loop_step, jump_nrm, jump_ret, jump_exit, jump_goto, condK_true, condK_false, exitTo_nrm, exitTo_ret, exitTo_goto, exitTo_exit, callK_nrm, callK_ret, execs_nil, execs_cons, exec1, opV, AOp.cls, evalP, evalR, evalN, evalW, guardOf, setD, Eng.X.ev, bump0, List.replicate, Eng.results, resVal, cellsO, addAll, AH.add, AH.get, lk, AH.set, up, AH.del, Eng.del, fieldAddr, loadAt, storeAt, rowsOf, partV, AH.empty, AH.bump, calleeOf, shift, shiftC, binV, binI, partsOf, fillA, List.range, List.range.loop, aw, isoShort, s1, s2, s3, bR_len]
  have hk : k.length ≤ 100 := by omega
  have p1 := fun n q tg t => pointI n q tg t k hk
  have p2 := fun n q tg t => rPointI n q tg t k hk
  simp -implicitDefEqProofs [hf, a10, Go.Eng.C.v, Go.Eng.C.vg, Go.Eng.C.vh, Go.Eng.C.l, Go.Eng.C.lg, Go.Eng.C.lh, Go.Eng.C.f, Go.Eng.C.fg, Go.Eng.C.fh, Go.Eng.C.o, Go.Eng.C.og, Go.Eng.C.oh, Go.Eng.C.k, Go.Eng.C.kg, Go.Eng.C.kh, Go.Eng.C.s, Go.Eng.C.sg, Go.Eng.C.sh, run_skip, run_label, run_ret, run_exit, run_goto, run_seq, run_reg, run_cond, run_blk, run_loop, run_scope, run_forget, seqK_nrm, seqK_ret, seqK_exit, seqK_goto, loopK_nrm, loopK_ret, loopK_exit, loopK_goto, loop_step, jump_nrm, jump_ret, jump_exit, jump_goto, condK_true, condK_false, exitTo_nrm, exitTo_ret, exitTo_goto, exitTo_exit, callK_nrm, callK_ret, execs_nil, execs_cons, exec1, opV, AOp.cls, evalP, evalR, evalN, evalW, guardOf, setD, Eng.X.ev, bump0, List.replicate, Eng.results, resVal, cellsO, addAll, AH.add, AH.get, lk, AH.set, up, AH.del, Eng.del, fieldAddr, loadAt, storeAt, rowsOf, partV, AH.empty, AH.bump, calleeOf, shift, shiftC, binV, binI, partsOf, fillA, List.range, List.range.loop, aw, isoShort, s1, s2, s3, bR_len, p1, p2, isoOne, allI, isoOneN, isoCheck, isoRCheck, isoEmpty, isoREmpty, isoIn, isoRIn, isoMeets, isoRMeets, isoCovers, isoRCovers, me]

end Go.Proofs.YtabhhckaclibaaaGreat
