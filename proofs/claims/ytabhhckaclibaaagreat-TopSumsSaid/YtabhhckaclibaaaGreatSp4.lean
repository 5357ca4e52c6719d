/- What the functions of spans tell, at their arguments: part 4. -/
import Derived.Test.YtabhhckaclibaaaGreatSp3
set_option linter.all false
set_option maxRecDepth 100000
set_option maxHeartbeats 4000000
namespace Go.Proofs.YtabhhckaclibaaaGreat
open Go.Eng

theorem isoIdx (n : Nat) (q : AH) (tg ta tb ta' tb' te : Tag) (t : Int) (l h : List UInt8) (o : Bool) (t' : Int) (l' h' : List UInt8) (o' : Bool) (u : Int) (x y : IV) (z : Bool) (k : List UInt8) :
    isoCall (call T (n + 8)) [] q (.fn 180) [.iv (.rsl tg [[.i .i64 t, .rsl ta (bR l), .rsl tb (bR h), .b o], [.i .i64 t', .rsl ta' (bR l'), .rsl tb' (bR h'), .b o']]), .iv (.fn 112 [] [.rptr [.i .i64 u, x, y, .b z] 0, .rptr [.rsl te (bR k)] 0])] =
      some (.iv (.i .i64 (if inS t l h o u k then if inS t' l' h' o' u k then -1 else 1 else 0)), []) :=
  iso_i (by simp only [mapO, lend_rsl, lend_ifn, Option.bind_some, Option.map_some]) (idxC n (lt tg) ta tb ta' tb' te t l h o t' l' h' o' u x y z k)

theorem cfC (n : Nat) (tg ta tb ta' tb' te : Tag) (t : Int) (l h : List UInt8) (o : Bool) (t' : Int) (l' h' : List UInt8) (o' : Bool) (u : Int) (x y : IV) (z : Bool) (k : List UInt8) :
    (call T (n + 9) (.fn 111) [.iv (.rsl tg [[.i .i64 t, .rsl ta (bR l), .rsl tb (bR h), .b o], [.i .i64 t', .rsl ta' (bR l'), .rsl tb' (bR h'), .b o']]), .iv (.fn 112 [] [.rptr [.i .i64 u, x, y, .b z] 0, .rptr [.rsl te (bR k)] 0])] .empty).map Prod.fst =
      some (.iv (.b (!(inS t l h o u k && inS t' l' h' o' u k)))) := by
  have hf := call_fn (T := T) (f := 111) (fn := a111) (by kernel_rfl) (by kernel_rfl)
  cases h1 : inS t l h o u k
  · simp -implicitDefEqProofs [hf, a111, Go.Eng.C.v, Go.Eng.C.vg, Go.Eng.C.vh, Go.Eng.C.l, Go.Eng.C.lg, Go.Eng.C.lh, Go.Eng.C.f, Go.Eng.C.fg, Go.Eng.C.fh, Go.Eng.C.o, Go.Eng.C.og, Go.Eng.C.oh, Go.Eng.C.k, Go.Eng.C.kg, Go.Eng.C.kh, Go.Eng.C.s, Go.Eng.C.sg, Go.Eng.C.sh, run_skip, run_label, run_ret, run_exit, run_goto, run_seq, run_reg, run_cond, run_blk, run_loop, run_scope, run_forget, seqK_nrm, seqK_ret, seqK_exit, seqK_goto, loopK_nrm, loopK_ret, loopK_exit, loopK_goto, loop_step, jump_nrm, jump_ret, jump_exit, jump_goto, condK_true, condK_false, exitTo_nrm, exitTo_ret, exitTo_goto, exitTo_exit, callK_nrm, callK_ret, execs_nil, execs_cons, exec1, opV, AOp.cls, evalP, evalR, evalN, evalW, guardOf, setD, Eng.X.ev, bump0, List.replicate, Eng.results, resVal, cellsO, addAll, AH.add, AH.get, lk, AH.set, up, AH.del, Eng.del, fieldAddr, loadAt, storeAt, rowsOf, partV, AH.empty, AH.bump, calleeOf, shift, shiftC, binV, binI, partsOf, fillA, List.range, List.range.loop, isoIdx, h1]
  cases h2 : inS t' l' h' o' u k <;> simp -implicitDefEqProofs [hf, a111, Go.Eng.C.v, Go.Eng.C.vg, Go.Eng.C.vh, Go.Eng.C.l, Go.Eng.C.lg, Go.Eng.C.lh, Go.Eng.C.f, Go.Eng.C.fg, Go.Eng.C.fh, Go.Eng.C.o, Go.Eng.C.og, Go.Eng.C.oh, Go.Eng.C.k, Go.Eng.C.kg, Go.Eng.C.kh, Go.Eng.C.s, Go.Eng.C.sg, Go.Eng.C.sh, run_skip, run_label, run_ret, run_exit, run_goto, run_seq, run_reg, run_cond, run_blk, run_loop, run_scope, run_forget, seqK_nrm, seqK_ret, seqK_exit, seqK_goto, loopK_nrm, loopK_ret, loopK_exit, loopK_goto, loop_step, jump_nrm, jump_ret, jump_exit, jump_goto, condK_true, condK_false, exitTo_nrm, exitTo_ret, exitTo_goto, exitTo_exit, callK_nrm, callK_ret, execs_nil, execs_cons, exec1, opV, AOp.cls, evalP, evalR, evalN, evalW, guardOf, setD, Eng.X.ev, bump0, List.replicate, Eng.results, resVal, cellsO, addAll, AH.add, AH.get, lk, AH.set, up, AH.del, Eng.del, fieldAddr, loadAt, storeAt, rowsOf, partV, AH.empty, AH.bump, calleeOf, shift, shiftC, binV, binI, partsOf, fillA, List.range, List.range.loop, isoIdx, h1, h2]

def isoK (rec : Rec) (c : Eng.Callee) (args : List AV) : Option (AV × List Blk) :=
  (rec c args .empty).bind fun (v, h') => (harvest h' [] v).bind fun r => if r.2.length ≤ 0 then some r else none
theorem iso_go (rec : Rec) (q : AH) (c : Eng.Callee) (args : List AV) : isoCall rec [] q c args = (mapO (toIA q true) args).bind (isoK rec c) := rfl
theorem isoK_b {rec : Rec} {c : Eng.Callee} {args : List AV} {b : Bool} (hc : (rec c args .empty).map Prod.fst = some (.iv (.b b))) : isoK rec c args = some (.iv (.b b), []) := by
  obtain ⟨h', e⟩ := map_fst hc
  simp [isoK, e, harvest_iv (x := .b b) (y := .b b) (by simp [deep, toI, permB]) (by simp)]

theorem lend_iv_b (h : AH) (b : Bool) : toIA h true (.iv (.b b)) = some (.iv (.b b)) := by simp [toIA, deep, toI_b]

/-- What both are looked at with, on the memory of the caller. -/
theorem bothC (n : Nat) (ta tb ta' tb' te : Tag) (t : Int) (l h : List UInt8) (o : Bool) (t' : Int) (l' h' : List UInt8) (o' : Bool) (k : List UInt8) (q : List (List AV)) :
    call T (n + 10) (.fn 110) [.sl 3 4 0 2 none, .ptr 0 4 0 0, .ptr 2 1 0 0] ⟨4, [(3, .cells 4 [[.iv (.i .i64 t), .iv (.rsl ta (bR l)), .iv (.rsl tb (bR h)), .iv (.b o)], [.iv (.i .i64 t'), .iv (.rsl ta' (bR l')), .iv (.rsl tb' (bR h')), .iv (.b o')]]), (2, .cells 1 [[.iv (.rsl te (bR k))]]), (1, .cells 4 q), (0, .cells 4 [[.iv (.i .i64 t), .iv (.rsl ta (bR l)), .iv (.rsl tb (bR h)), .iv (.b o)]])]⟩ =
      some (.iv (.b (inS t l h o t k && inS t' l' h' o' t k)), ⟨4, [(3, .cells 4 [[.iv (.i .i64 t), .iv (.rsl ta (bR l)), .iv (.rsl tb (bR h)), .iv (.b o)], [.iv (.i .i64 t'), .iv (.rsl ta' (bR l')), .iv (.rsl tb' (bR h')), .iv (.b o')]]), (2, .cells 1 [[.iv (.rsl te (bR k))]]), (1, .cells 4 q), (0, .cells 4 [[.iv (.i .i64 t), .iv (.rsl ta (bR l)), .iv (.rsl tb (bR h)), .iv (.b o)]])]⟩) := by
  have hf := call_fn (T := T) (f := 110) (fn := a110) (by kernel_rfl) (by kernel_rfl)
  have hk := fun (tg ta tb ta' tb' te : Tag) (x y : IV) => isoK_b (cfC n tg ta tb ta' tb' te t l h o t' l' h' o' t x y o k)
  cases h1 : inS t l h o t k <;> cases h2 : inS t' l' h' o' t k <;> simp [h1, h2] at hk <;> simp -implicitDefEqProofs [hf, a110, Go.Eng.C.v, Go.Eng.C.vg, Go.Eng.C.vh, Go.Eng.C.l, Go.Eng.C.lg, Go.Eng.C.lh, Go.Eng.C.f, Go.Eng.C.fg, Go.Eng.C.fh, Go.Eng.C.o, Go.Eng.C.og, Go.Eng.C.oh, Go.Eng.C.k, Go.Eng.C.kg, Go.Eng.C.kh, Go.Eng.C.s, Go.Eng.C.sg, Go.Eng.C.sh, run_skip, run_label, run_ret, run_exit, run_goto, run_seq, run_reg, run_cond, run_blk, run_loop, run_scope, run_forget, seqK_nrm, seqK_ret, seqK_exit, seqK_goto, loopK_nrm, loopK_ret, loopK_exit, loopK_goto, loop_step, jump_nrm, jump_ret, jump_exit, jump_goto, condK_true, condK_false, exitTo_nrm, exitTo_ret, exitTo_goto, exitTo_exit, callK_nrm, callK_ret, execs_nil, execs_cons, exec1, opV, AOp.cls, evalP, evalR, evalN, evalW, guardOf, setD, Eng.X.ev, bump0, List.replicate, Eng.results, resVal, cellsO, addAll, AH.add, AH.get, lk, AH.set, up, AH.del, Eng.del, fieldAddr, loadAt, storeAt, rowsOf, partV, AH.empty, AH.bump, calleeOf, shift, shiftC, binV, binI, partsOf, fillA, List.range, List.range.loop, iso_go, hk, lend_sl, lend_fn, toI_sl, toI_fn, toI_ptr, toI_rsl, toI_i, toI_b, mapO, h1, h2]

def maxS (a b : List UInt8) : List UInt8 := if cmpBytes a b < 0 then b else a
def meetsS (t : Int) (l h : List UInt8) (o : Bool) (t' : Int) (l' h' : List UInt8) (o' : Bool) : Bool :=
  inS t l h o t (maxS l l') && inS t' l' h' o' t (maxS l l')

theorem meetsC (n : Nat) (ta tb ta' tb' : Tag) (t : Int) (l h : List UInt8) (o : Bool) (t' : Int) (l' h' : List UInt8) (o' : Bool) : (call T (n + 11) (.fn 48) [.agg [.iv (.i .i64 t), .iv (.rsl ta (bR l)), .iv (.rsl tb (bR h)), .iv (.b o)], .agg [.iv (.i .i64 t'), .iv (.rsl ta' (bR l')), .iv (.rsl tb' (bR h')), .iv (.b o')]] .empty).map Prod.fst = some (.iv (.b (meetsS t l h o t' l' h' o'))) := by
  have hf := call_fn (T := T) (f := 48) (fn := a48) (by kernel_rfl) (by kernel_rfl)
  by_cases h1 : cmpBytes l l' < 0 <;> simp -implicitDefEqProofs [hf, a48, Go.Eng.C.v, Go.Eng.C.vg, Go.Eng.C.vh, Go.Eng.C.l, Go.Eng.C.lg, Go.Eng.C.lh, Go.Eng.C.f, Go.Eng.C.fg, Go.Eng.C.fh, Go.Eng.C.o, Go.Eng.C.og, Go.Eng.C.oh, Go.Eng.C.k, Go.Eng.C.kg, Go.Eng.C.kh, Go.Eng.C.s, Go.Eng.C.sg, Go.Eng.C.sh, run_skip, run_label, run_ret, run_exit, run_goto, run_seq, run_reg, run_cond, run_blk, run_loop, run_scope, run_forget, seqK_nrm, seqK_ret, seqK_exit, seqK_goto, loopK_nrm, loopK_ret, loopK_exit, loopK_goto, loop_step, jump_nrm, jump_ret, jump_exit, jump_goto, condK_true, condK_false, exitTo_nrm, exitTo_ret, exitTo_goto, exitTo_exit, callK_nrm, callK_ret, execs_nil, execs_cons, exec1, opV, AOp.cls, evalP, evalR, evalN, evalW, guardOf, setD, Eng.X.ev, bump0, List.replicate, Eng.results, resVal, cellsO, addAll, AH.add, AH.get, lk, AH.set, up, AH.del, Eng.del, fieldAddr, loadAt, storeAt, rowsOf, partV, AH.empty, AH.bump, calleeOf, shift, shiftC, binV, binI, partsOf, fillA, List.range, List.range.loop, isoCmp, shCall, bothC, meetsS, maxS, h1]

theorem isoMeets (n : Nat) (q : AH) (ta tb ta' tb' : Tag) (t : Int) (l h : List UInt8) (o : Bool) (t' : Int) (l' h' : List UInt8) (o' : Bool) : isoCall (call T (n + 11)) [] q (.fn 48) [.agg [.iv (.i .i64 t), .iv (.rsl ta (bR l)), .iv (.rsl tb (bR h)), .iv (.b o)], .agg [.iv (.i .i64 t'), .iv (.rsl ta' (bR l')), .iv (.rsl tb' (bR h')), .iv (.b o')]] = some (.iv (.b (meetsS t l h o t' l' h' o')), []) :=
  iso_b (by simp only [mapO, lend_sp, Option.bind_some, Option.map_some]) (meetsC n (lt ta) (lt tb) (lt ta') (lt tb') t l h o t' l' h' o')

end Go.Proofs.YtabhhckaclibaaaGreat
