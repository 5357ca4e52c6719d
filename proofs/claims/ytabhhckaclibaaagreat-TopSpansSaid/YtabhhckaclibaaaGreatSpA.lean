/- TopSpans tells yes. -/
import Derived.Test.YtabhhckaclibaaaGreatSp8
import Derived.Test.YtabhhckaclibaaaGreatSp9
set_option linter.all false
set_option maxRecDepth 100000
set_option maxHeartbeats 4000000
namespace Go.Proofs.YtabhhckaclibaaaGreat
open Go.Eng

theorem lend_b' (h : AH) (b : Bool) : toIA h true (.iv (.b b)) = some (.iv (.b b)) := lend_iv_b h b

theorem isoTells (n : Nat) (q : AH) (ta tb ta' tb' tk : Tag) (t : Int) (l h : List UInt8) (o : Bool) (t' : Int) (l' h' : List UInt8) (o' : Bool) (u : Int) (k : List UInt8) :
    isoCall (call T (n + 81)) [] q (.fn 10) [.agg [.iv (.i .i64 t), .iv (.rsl ta (bR l)), .iv (.rsl tb (bR h)), .iv (.b o)], .agg [.iv (.i .i64 t'), .iv (.rsl ta' (bR l')), .iv (.rsl tb' (bR h')), .iv (.b o')], .iv (.i .i64 u), .iv (.rsl tk (bR k))] = some (.iv (.b true), []) :=
  iso_b (by simp only [mapO, lend_sp, lend_i, lend_rsl, Option.bind_some, Option.map_some]) (tellsC n (lt ta) (lt tb) (lt ta') (lt tb') (lt tk) t l h o t' l' h' o' u k)

theorem isoKeys (n : Nat) (q : AH) (ta tb ta' tb' tk tm : Tag) (t : Int) (l h : List UInt8) (o : Bool) (t' : Int) (l' h' : List UInt8) (o' : Bool) (u : Int) (k m : List UInt8) :
    isoCall (call T (n + 81)) [] q (.fn 11) [.agg [.iv (.i .i64 t), .iv (.rsl ta (bR l)), .iv (.rsl tb (bR h)), .iv (.b o)], .agg [.iv (.i .i64 t'), .iv (.rsl ta' (bR l')), .iv (.rsl tb' (bR h')), .iv (.b o')], .iv (.i .i64 u), .iv (.rsl tk (bR k)), .iv (.rsl tm (bR m))] = some (.iv (.b true), []) :=
  iso_b (by simp only [mapO, lend_sp, lend_i, lend_rsl, Option.bind_some, Option.map_some]) (keysC n (lt ta) (lt tb) (lt ta') (lt tb') (lt tk) (lt tm) t l h o t' l' h' o' u k m)

theorem isoOn (n : Nat) (q : AH) (ta tb ta' tb' tk tm : Tag) (t : Int) (l h : List UInt8) (o : Bool) (t' : Int) (l' h' : List UInt8) (o' : Bool) (u : Int) (k m : List UInt8) (p : Bool) :
    isoCall (call T (n + 81)) [] q (.fn 12) [.agg [.iv (.i .i64 t), .iv (.rsl ta (bR l)), .iv (.rsl tb (bR h)), .iv (.b o)], .agg [.iv (.i .i64 t'), .iv (.rsl ta' (bR l')), .iv (.rsl tb' (bR h')), .iv (.b o')], .agg [.iv (.i .i64 u), .iv (.rsl tk (bR k)), .iv (.rsl tm (bR m)), .iv (.b p)]] = some (.iv (.b true), []) :=
  iso_b (by simp only [mapO, lend_sp, lend_i, lend_rsl, Option.bind_some, Option.map_some]) (onC n (lt ta) (lt tb) (lt ta') (lt tb') (lt tk) (lt tm) t l h o t' l' h' o' u k m p)

theorem spansC (n : Nat) (ta tb ta' tb' tk tm ts : Tag) (t : Int) (l h : List UInt8) (o : Bool) (t' : Int) (l' h' : List UInt8) (o' : Bool) (u : Int) (k m : List UInt8) (p : Bool) (s : List UInt8) :
    (call T (n + 82) (.fn 3) [.agg [.iv (.i .i64 t), .iv (.rsl ta (bR l)), .iv (.rsl tb (bR h)), .iv (.b o)], .agg [.iv (.i .i64 t'), .iv (.rsl ta' (bR l')), .iv (.rsl tb' (bR h')), .iv (.b o')], .agg [.iv (.i .i64 u), .iv (.rsl tk (bR k)), .iv (.rsl tm (bR m)), .iv (.b p)], .iv (.rsl ts (bR s))] .empty).map Prod.fst = some (.iv (.b true)) := by
  have hf := call_fn (T := T) (f := 3) (fn := a3) (by kernel_rfl) (by kernel_rfl)
  have aw := fun n q => isoAw awT (n + 1) q
  simp -implicitDefEqProofs [hf, a3, Go.Eng.C.v, Go.Eng.C.vg, Go.Eng.C.vh, Go.Eng.C.l, Go.Eng.C.lg, Go.Eng.C.lh, Go.Eng.C.f, Go.Eng.C.fg, Go.Eng.C.fh, Go.Eng.C.o, Go.Eng.C.og, Go.Eng.C.oh, Go.Eng.C.k, Go.Eng.C.kg, Go.Eng.C.kh, Go.Eng.C.s, Go.Eng.C.sg, Go.Eng.C.sh, run_skip, run_label, run_ret, run_exit, run_goto, run_seq, run_reg, run_cond, run_blk, run_loop, run_scope, run_forget, seqK_nrm, seqK_ret, seqK_exit, seqK_goto, loopK_nrm, loopK_ret, loopK_exit, loopK_goto, loop_step, jump_nrm, jump_ret, jump_exit, jump_goto, condK_true, condK_false, exitTo_nrm, exitTo_ret, exitTo_goto, exitTo_exit, callK_nrm, callK_ret, execs_nil, execs_cons, exec1, opV, AOp.cls, evalP, evalR, evalN, evalW, guardOf, setD, Eng.X.ev, bump0, List.replicate, Eng.results, resVal, cellsO, addAll, AH.add, AH.get, lk, AH.set, up, AH.del, Eng.del, fieldAddr, loadAt, storeAt, rowsOf, partV, AH.empty, AH.bump, calleeOf, shift, shiftC, binV, binI, partsOf, fillA, List.range, List.range.loop, aw, isoTells, isoKeys, isoOn]

end Go.Proofs.YtabhhckaclibaaaGreat
