/- What the functions of spans tell, at their arguments: part 3. -/
import Derived.Test.YtabhhckaclibaaaGreatSp1
set_option linter.all false
set_option maxRecDepth 100000
set_option maxHeartbeats 4000000
namespace Go.Proofs.YtabhhckaclibaaaGreat
open Go.Eng

theorem toI_rptr (h : AH) (r : List IV) (o n : Nat) : toI h true (n + 1) (.iv (.rptr r o)) = some (.rptr r o) := by simp [toI]
theorem toI_ifn (h : AH) (f : Nat) (a c : List IV) (n : Nat) : toI h true (n + 1) (.iv (.fn f a c)) = some (.fn f a c) := by simp [toI]
theorem toI_ptr (h : AH) (b sz i o n : Nat) : toI h true (n + 1) (.ptr b sz i o) = (rowsOf h b sz).bind fun rows => (rows[i]?).bind fun row => (mapO (toI h true n) row).map fun r => .rptr r o := by simp [toI]
theorem toI_sl (h : AH) (b sz st len : Nat) (cap : Option Nat) (n : Nat) : toI h true (n + 1) (.sl b sz st len cap) = (rowsOf h b sz).bind fun rows => if st + len ≤ rows.length then (mapO (fun row => mapO (toI h true n) row) ((rows.drop st).take len)).map (.rsl .b) else none := by simp [toI]
theorem toI_fn (h : AH) (f : Nat) (a c : List AV) (n : Nat) : toI h true (n + 1) (.fn f a c) = (mapO (toI h true n) a).bind fun a' => (mapO (toI h true n) c).map fun c' => .fn f a' c' := by simp [toI]
theorem lend_rptr (h : AH) (r : List IV) (o : Nat) : toIA h true (.iv (.rptr r o)) = some (.iv (.rptr r o)) := by simp [toIA, deep, toI_rptr]
theorem lend_ifn (h : AH) (f : Nat) (a c : List IV) : toIA h true (.iv (.fn f a c)) = some (.iv (.fn f a c)) := by simp [toIA, deep, toI_ifn]
theorem lend_sl (h : AH) (b sz st len : Nat) (cap : Option Nat) : toIA h true (.sl b sz st len cap) = (toI h true 64 (.sl b sz st len cap)).map .iv := rfl
theorem lend_fn (h : AH) (f : Nat) (a c : List AV) : toIA h true (.fn f a c) = (toI h true 64 (.fn f a c)).map .iv := rfl

/-- The key that both are looked at. -/
theorem atC (n : Nat) (ta tb te : Tag) (t : Int) (l h : List UInt8) (o : Bool) (t' : Int) (x y : IV) (z : Bool) (k : List UInt8) : (call T (n + 3) (.fn 112) [.agg [.iv (.i .i64 t), .iv (.rsl ta (bR l)), .iv (.rsl tb (bR h)), .iv (.b o)], .iv (.rptr [.i .i64 t', x, y, .b z] 0), .iv (.rptr [.rsl te (bR k)] 0)] .empty).map Prod.fst = some (.iv (.b (!inS t l h o t' k))) := by
  have hf := call_fn (T := T) (f := 112) (fn := a112) (by kernel_rfl) (by kernel_rfl)
  simp -implicitDefEqProofs [hf, a112, Go.Eng.C.v, Go.Eng.C.vg, Go.Eng.C.vh, Go.Eng.C.l, Go.Eng.C.lg, Go.Eng.C.lh, Go.Eng.C.f, Go.Eng.C.fg, Go.Eng.C.fh, Go.Eng.C.o, Go.Eng.C.og, Go.Eng.C.oh, Go.Eng.C.k, Go.Eng.C.kg, Go.Eng.C.kh, Go.Eng.C.s, Go.Eng.C.sg, Go.Eng.C.sh, run_skip, run_label, run_ret, run_exit, run_goto, run_seq, run_reg, run_cond, run_blk, run_loop, run_scope, run_forget, seqK_nrm, seqK_ret, seqK_exit, seqK_goto, loopK_nrm, loopK_ret, loopK_exit, loopK_goto, loop_step, jump_nrm, jump_ret, jump_exit, jump_goto, condK_true, condK_false, exitTo_nrm, exitTo_ret, exitTo_goto, exitTo_exit, callK_nrm, callK_ret, execs_nil, execs_cons, exec1, opV, AOp.cls, evalP, evalR, evalN, evalW, guardOf, setD, Eng.X.ev, bump0, List.replicate, Eng.results, resVal, cellsO, addAll, AH.add, AH.get, lk, AH.set, up, AH.del, Eng.del, fieldAddr, loadAt, storeAt, rowsOf, partV, AH.empty, AH.bump, calleeOf, shift, shiftC, binV, binI, partsOf, fillA, isoIn]

theorem isoAt (n : Nat) (q : AH) (ta tb te : Tag) (t : Int) (l h : List UInt8) (o : Bool) (t' : Int) (x y : IV) (z : Bool) (k : List UInt8) : isoCall (call T (n + 3)) [] q (.fn 112) [.agg [.iv (.i .i64 t), .iv (.rsl ta (bR l)), .iv (.rsl tb (bR h)), .iv (.b o)], .iv (.rptr [.i .i64 t', x, y, .b z] 0), .iv (.rptr [.rsl te (bR k)] 0)] = some (.iv (.b (!inS t l h o t' k)), []) :=
  iso_b (args' := [.agg [.iv (.i .i64 t), .iv (.rsl (lt ta) (bR l)), .iv (.rsl (lt tb) (bR h)), .iv (.b o)], .iv (.rptr [.i .i64 t', x, y, .b z] 0), .iv (.rptr [.rsl te (bR k)] 0)]) (by simp only [mapO, lend_sp, lend_rptr, Option.bind_some, Option.map_some]) (atC n (lt ta) (lt tb) te t l h o t' x y z k)

/-- slices.IndexFunc, at two spans. -/
theorem idxC (n : Nat) (tg ta tb ta' tb' te : Tag) (t : Int) (l h : List UInt8) (o : Bool) (t' : Int) (l' h' : List UInt8) (o' : Bool) (u : Int) (x y : IV) (z : Bool) (k : List UInt8) :
    (call T (n + 8) (.fn 180) [.iv (.rsl tg [[.i .i64 t, .rsl ta (bR l), .rsl tb (bR h), .b o], [.i .i64 t', .rsl ta' (bR l'), .rsl tb' (bR h'), .b o']]), .iv (.fn 112 [] [.rptr [.i .i64 u, x, y, .b z] 0, .rptr [.rsl te (bR k)] 0])] .empty).map Prod.fst =
      some (.iv (.i .i64 (if inS t l h o u k then if inS t' l' h' o' u k then -1 else 1 else 0))) := by
  have hf := call_fn (T := T) (f := 180) (fn := a180) (by kernel_rfl) (by kernel_rfl)
  have w1 : IntKind.i64.wrap 1 = 1 := by decide
  have w2 : IntKind.i64.wrap 2 = 2 := by decide
  cases h1 : inS t l h o u k
  · simp -implicitDefEqProofs [hf, a180, Go.Eng.C.v, Go.Eng.C.vg, Go.Eng.C.vh, Go.Eng.C.l, Go.Eng.C.lg, Go.Eng.C.lh, Go.Eng.C.f, Go.Eng.C.fg, Go.Eng.C.fh, Go.Eng.C.o, Go.Eng.C.og, Go.Eng.C.oh, Go.Eng.C.k, Go.Eng.C.kg, Go.Eng.C.kh, Go.Eng.C.s, Go.Eng.C.sg, Go.Eng.C.sh, run_skip, run_label, run_ret, run_exit, run_goto, run_seq, run_reg, run_cond, run_blk, run_loop, run_scope, run_forget, seqK_nrm, seqK_ret, seqK_exit, seqK_goto, loopK_nrm, loopK_ret, loopK_exit, loopK_goto, loop_step, jump_nrm, jump_ret, jump_exit, jump_goto, condK_true, condK_false, exitTo_nrm, exitTo_ret, exitTo_goto, exitTo_exit, callK_nrm, callK_ret, execs_nil, execs_cons, exec1, opV, AOp.cls, evalP, evalR, evalN, evalW, guardOf, setD, Eng.X.ev, bump0, List.replicate, Eng.results, resVal, cellsO, addAll, AH.add, AH.get, lk, AH.set, up, AH.del, Eng.del, fieldAddr, loadAt, storeAt, rowsOf, partV, AH.empty, AH.bump, calleeOf, shift, shiftC, binV, binI, partsOf, fillA, loopN, indexAddr, inRange, isoAt, h1, iv2a]
  cases h2 : inS t' l' h' o' u k <;> simp -implicitDefEqProofs [hf, a180, Go.Eng.C.v, Go.Eng.C.vg, Go.Eng.C.vh, Go.Eng.C.l, Go.Eng.C.lg, Go.Eng.C.lh, Go.Eng.C.f, Go.Eng.C.fg, Go.Eng.C.fh, Go.Eng.C.o, Go.Eng.C.og, Go.Eng.C.oh, Go.Eng.C.k, Go.Eng.C.kg, Go.Eng.C.kh, Go.Eng.C.s, Go.Eng.C.sg, Go.Eng.C.sh, run_skip, run_label, run_ret, run_exit, run_goto, run_seq, run_reg, run_cond, run_blk, run_loop, run_scope, run_forget, seqK_nrm, seqK_ret, seqK_exit, seqK_goto, loopK_nrm, loopK_ret, loopK_exit, loopK_goto, loop_step, jump_nrm, jump_ret, jump_exit, jump_goto, condK_true, condK_false, exitTo_nrm, exitTo_ret, exitTo_goto, exitTo_exit, callK_nrm, callK_ret, execs_nil, execs_cons, exec1, opV, AOp.cls, evalP, evalR, evalN, evalW, guardOf, setD, Eng.X.ev, bump0, List.replicate, Eng.results, resVal, cellsO, addAll, AH.add, AH.get, lk, AH.set, up, AH.del, Eng.del, fieldAddr, loadAt, storeAt, rowsOf, partV, AH.empty, AH.bump, calleeOf, shift, shiftC, binV, binI, partsOf, fillA, loopN, indexAddr, inRange, isoAt, h1, h2, iv2a, w1, w2]

end Go.Proofs.YtabhhckaclibaaaGreat
