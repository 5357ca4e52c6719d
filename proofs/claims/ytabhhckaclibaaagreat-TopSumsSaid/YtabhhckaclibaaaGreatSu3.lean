/- What the functions of sums tell, at their arguments: part 3. -/
import Derived.Test.YtabhhckaclibaaaGreatSu2
import Derived.Test.YtabhhckaclibaaaGreatSp7
import Derived.Test.YtabhhckaclibaaaGreatAw02
set_option linter.all false
set_option maxRecDepth 100000
set_option maxHeartbeats 4000000
namespace Go.Proofs.YtabhhckaclibaaaGreat
open Go.Eng

theorem iso_tt {rec : Rec} {h : AH} {c : Eng.Callee} {args args' : List AV} {k k' : IntKind} {a a' : Int} (hl : mapO (toIA h true) args = some args') (hc : (rec c args' .empty).map Prod.fst = some (.tup [.iv (.i k a), .iv (.i k' a')])) : isoCall rec [] h c args = some (.tup [.iv (.i k a), .iv (.i k' a')], []) := by
  obtain ⟨h', e⟩ := map_fst hc
  simp [isoCall, hl, e, harvest, flatR, keptIds, nodupN, AH.dels, harvestCells, deep, toP_i, unflatR, unflat]

theorem isoJoin (N : Nat) (hN : 6 ≤ N) (q : AH) (l m : List UInt8) (k : Int) (hk : k = (m.length : Int)) (hm : m.length ≤ 2000) : isoCall (call T N) [] q (.fn 65) [.iv (.i .u32 (packP (pairOf l))), .iv (.i .u32 (packP (pairOf m))), .iv (.i .i64 k)] = some (.tup [.iv (.i .u32 (packP (pairOf (l ++ m)))), .iv (.i .i64 0)], []) := by
  obtain ⟨n, rfl⟩ : ∃ n, N = n + 6 := ⟨N - 6, by omega⟩
  subst hk
  have h1 := pair_lt l
  have h2 := pair_lt m
  have := joinC n (pairOf l).1 (pairOf l).2 (pairOf m).1 (pairOf m).2 m.length h1.1 h1.2 h2.1 h2.2 (by omega)
  have e := join_ok l m
  rw [← e]
  exact iso_tt (by simp only [mapO, lend_i, Option.bind_some, Option.map_some]) this

theorem byteRows_take (l : List UInt8) (n : Nat) : (byteRows l).take n = byteRows (l.take n) := by simp [byteRows, List.map_take]

theorem isoSumSl (N : Nat) (hN : 2004 ≤ N) (m b n : Nat) (cap : Option Nat) (r : List (Nat × Blk)) (l : List UInt8) (hl : l.length ≤ 2000) (hn : n ≤ l.length) : isoCall (call T N) [] ⟨m, (b, .cells 1 (byteRows l)) :: r⟩ (.fn 64) [.sl b 1 0 n cap] = some (.iv (.i .u32 (packP (pairOf (l.take n)))), []) := by
  obtain ⟨n', rfl⟩ : ∃ n', N = n' + (l.take n).length + 4 := ⟨N - (l.take n).length - 4, by rw [List.length_take]; omega⟩
  refine iso_i ?_ (sumC n' .b (l.take n) (by rw [List.length_take]; omega))
  have h1 : rowsOf (⟨m, (b, .cells 1 (byteRows l)) :: r⟩ : AH) b 1 = some (byteRows l) := by simp [rowsOf, AH.get, lk]
  have h2 := toI_byteRowsL (⟨m, (b, .cells 1 (byteRows l)) :: r⟩ : AH) 62 (l.take n)
  simp only [mapO, lend_sl, toI_sl, h1, Option.bind_some, byteRows_len, Nat.zero_add, hn, if_true, List.drop_zero, byteRows_take, h2, Option.map_some]

theorem joinsC (n : Nat) (ta tb tc : Tag) (a b c : List UInt8) : (call T (n + 4000) (.fn 16) [.iv (.rsl ta (bR a)), .iv (.rsl tb (bR b)), .iv (.rsl tc (bR c))] .empty).map Prod.fst = some (.iv (.b true)) := by
  have hf := call_fn (T := T) (f := 16) (fn := a16) (by kernel_rfl) (by kernel_rfl)
  have aw := fun q => isoAw aw02 (n + 3919) q
  by_cases h1 : 300 < (a.length : Int)
  · simp -implicitDefEqProofs [hf, a16, Go.Eng.C.v, Go.Eng.C.vg, Go.Eng.C.vh, Go.Eng.C.l, Go.Eng.C.lg, Go.Eng.C.lh, Go.Eng.C.f, Go.Eng.C.fg, Go.Eng.C.fh, Go.Eng.C.o, Go.Eng.C.og, Go.Eng.C.oh, Go.Eng.C.k, Go.Eng.C.kg, Go.Eng.C.kh, Go.Eng.C.s, Go.Eng.C.sg, Go.Eng.C.sh, run_skip, run_label, run_ret, run_exit, run_goto, run_seq, run_reg, run_cond, run_blk, run_loop, run_scope, run_forget, seqK_nrm, seqK_ret, seqK_exit, seqK_goto, loopK_nrm, loopK_ret, loopK_exit, loopK_goto, loop_step, jump_nrm, jump_ret, jump_exit, jump_goto, condK_true, condK_false, exitTo_nrm, exitTo_ret, exitTo_goto, exitTo_exit, callK_nrm, callK_ret, execs_nil, execs_cons, exec1, opV, AOp.cls, evalP, evalR, evalN, evalW, guardOf, setD, Eng.X.ev, bump0, List.replicate, Eng.results, resVal, cellsO, addAll, AH.add, AH.get, lk, AH.set, up, AH.del, Eng.del, fieldAddr, loadAt, storeAt, rowsOf, partV, AH.empty, AH.bump, calleeOf, shift, shiftC, binV, binI, partsOf, fillA, List.range, List.range.loop, aw, bR_len, h1]
  by_cases h2 : 300 < (b.length : Int)
  · simp -implicitDefEqProofs [hf, a16, Go.Eng.C.v, Go.Eng.C.vg, Go.Eng.C.vh, Go.Eng.C.l, Go.Eng.C.lg, Go.Eng.C.lh, Go.Eng.C.f, Go.Eng.C.fg, Go.Eng.C.fh, Go.Eng.C.o, Go.Eng.C.og, Go.Eng.C.oh, Go.Eng.C.k, Go.Eng.C.kg, Go.Eng.C.kh, Go.Eng.C.s, Go.Eng.C.sg, Go.Eng.C.sh, run_skip, run_label, run_ret, run_exit, run_goto, run_seq, run_reg, run_cond, run_blk, run_loop, run_scope, run_forget, seqK_nrm, seqK_ret, seqK_exit, seqK_goto, loopK_nrm, loopK_ret, loopK_exit, loopK_goto, loop_step, jump_nrm, jump_ret, jump_exit, jump_goto, condK_true, condK_false, exitTo_nrm, exitTo_ret, exitTo_goto, exitTo_exit, callK_nrm, callK_ret, execs_nil, execs_cons, exec1, opV, AOp.cls, evalP, evalR, evalN, evalW, guardOf, setD, Eng.X.ev, bump0, List.replicate, Eng.results, resVal, cellsO, addAll, AH.add, AH.get, lk, AH.set, up, AH.del, Eng.del, fieldAddr, loadAt, storeAt, rowsOf, partV, AH.empty, AH.bump, calleeOf, shift, shiftC, binV, binI, partsOf, fillA, List.range, List.range.loop, aw, bR_len, h1, h2]
  by_cases h3 : 300 < (c.length : Int)
  · simp -implicitDefEqProofs [hf, a16, Go.Eng.C.v, Go.Eng.C.vg, Go.Eng.C.vh, Go.Eng.C.l, Go.Eng.C.lg, Go.Eng.C.lh, Go.Eng.C.f, Go.Eng.C.fg, Go.Eng.C.fh, Go.Eng.C.o, Go.Eng.C.og, Go.Eng.C.oh, Go.Eng.C.k, Go.Eng.C.kg, Go.Eng.C.kh, Go.Eng.C.s, Go.Eng.C.sg, Go.Eng.C.sh, run_skip, run_label, run_ret, run_exit, run_goto, run_seq, run_reg, run_cond, run_blk, run_loop, run_scope, run_forget, seqK_nrm, seqK_ret, seqK_exit, seqK_goto, loopK_nrm, loopK_ret, loopK_exit, loopK_goto, loop_step, jump_nrm, jump_ret, jump_exit, jump_goto, condK_true, condK_false, exitTo_nrm, exitTo_ret, exitTo_goto, exitTo_exit, callK_nrm, callK_ret, execs_nil, execs_cons, exec1, opV, AOp.cls, evalP, evalR, evalN, evalW, guardOf, setD, Eng.X.ev, bump0, List.replicate, Eng.results, resVal, cellsO, addAll, AH.add, AH.get, lk, AH.set, up, AH.del, Eng.del, fieldAddr, loadAt, storeAt, rowsOf, partV, AH.empty, AH.bump, calleeOf, shift, shiftC, binV, binI, partsOf, fillA, List.range, List.range.loop, aw, bR_len, h1, h2, h3]
  have s1 := fun tg q => isoSum (n + 3999) (by omega) tg a (by omega) q
  have s2 := fun tg q => isoSum (n + 3999) (by omega) tg b (by omega) q
  have s3 := fun tg q => isoSum (n + 3999) (by omega) tg c (by omega) q
  have j1 := fun q => isoJoin (n + 3999) (by omega) q a b (b.length : Int) rfl (by omega)
  have j2 := fun q => isoJoin (n + 3999) (by omega) q b c (c.length : Int) rfl (by omega)
  have j3 := fun q => isoJoin (n + 3999) (by omega) q (a ++ b) c (c.length : Int) rfl (by omega)
  have j4 := fun q => isoJoin (n + 3999) (by omega) q a (b ++ c) ((b.length : Int) + (c.length : Int)) (by simp) (by rw [List.length_append]; omega)
  have w1 : IntKind.i64.wrap ((b.length : Int) + (c.length : Int)) = (b.length : Int) + (c.length : Int) := wrapi (by omega) (by omega)
  have w2 : IntKind.i64.wrap ((a.length : Int) + (b.length : Int)) = (a.length : Int) + (b.length : Int) := wrapi (by omega) (by omega)
  have r1 : roomy a.length 1 = true := roomy_small (by omega)
  have r2 : roomy (a.length + b.length) 1 = true := roomy_small (by omega)
  have r3 : roomy (a.length + b.length + c.length) 1 = true := roomy_small (by omega)
  have t1 := fun m bb r => isoSumSl (n + 3999) (by omega) m bb (a.length + b.length + c.length) none r (a ++ b ++ c) (by rw [List.length_append, List.length_append]; omega) (by rw [List.length_append, List.length_append]; omega)
  have t2 := fun m bb r => isoSumSl (n + 3999) (by omega) m bb (a.length + b.length) none r (a ++ b ++ c) (by rw [List.length_append, List.length_append]; omega) (by rw [List.length_append, List.length_append]; omega)
  have k1 : (a ++ b ++ c).take (a.length + b.length + c.length) = a ++ b ++ c := List.take_of_length_le (by simp; omega)
  have k2 : (a ++ b ++ c).take (a.length + b.length) = a ++ b := by
    rw [← List.length_append]; exact List.take_left
  rw [k1] at t1
  rw [k2] at t2
  have u1 : sliceV 1 (.sl 3 1 0 (a.length + b.length + c.length) none) none (some ((a.length : Int) + (b.length : Int))) none = some (.sl 3 1 0 (a.length + b.length) none) := by
    simp only [sliceV, bounds, Option.getD, ne_eq, not_true, if_false]
    rw [if_pos ⟨by omega, by omega, by omega⟩]
    simp
    omega
  rw [List.append_assoc] at t1 t2 j3
  simp -implicitDefEqProofs (maxSteps := 2000000) [hf, a16, Go.Eng.C.v, Go.Eng.C.vg, Go.Eng.C.vh, Go.Eng.C.l, Go.Eng.C.lg, Go.Eng.C.lh, Go.Eng.C.f, Go.Eng.C.fg, Go.Eng.C.fh, Go.Eng.C.o, Go.Eng.C.og, Go.Eng.C.oh, Go.Eng.C.k, Go.Eng.C.kg, Go.Eng.C.kh, Go.Eng.C.s, Go.Eng.C.sg, Go.Eng.C.sh, run_skip, run_label, run_ret, run_exit, run_goto, run_seq, run_reg, run_cond, run_blk, run_loop, run_scope, run_forget, seqK_nrm, seqK_ret, seqK_exit, seqK_goto, loopK_nrm, loopK_ret, loopK_exit, loopK_goto, loop_step, jump_nrm, jump_ret, jump_exit, jump_goto, condK_true, condK_false, exitTo_nrm, exitTo_ret, exitTo_goto, exitTo_exit, callK_nrm, callK_ret, execs_nil, execs_cons, exec1, opV, AOp.cls, evalP, evalR, evalN, evalW, guardOf, setD, Eng.X.ev, bump0, List.replicate, Eng.results, resVal, cellsO, addAll, AH.add, AH.get, lk, AH.set, up, AH.del, Eng.del, fieldAddr, loadAt, storeAt, rowsOf, partV, AH.empty, AH.bump, calleeOf, shift, shiftC, binV, binI, partsOf, fillA, List.range, List.range.loop, aw, bR_len, h1, h2, h3, s1, s2, s3, j1, j2, j3, j4, w1, w2, appendRows, rowsRead, bR_uni, bR_map, byteRows_len, take_bytes, byteRows_app, r1, r2, r3, t1, t2, boundOf, u1]

end Go.Proofs.YtabhhckaclibaaaGreat
