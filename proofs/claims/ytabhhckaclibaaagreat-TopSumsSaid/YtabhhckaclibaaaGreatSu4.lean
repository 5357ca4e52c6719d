/- What the functions of sums tell, at their arguments: part 4. -/
import Derived.Test.YtabhhckaclibaaaGreatSu3
set_option linter.all false
set_option maxRecDepth 100000
set_option maxHeartbeats 4000000
namespace Go.Proofs.YtabhhckaclibaaaGreat
open Go.Eng

theorem byteC (n : Nat) (ta : Tag) (a : List UInt8) (x : Nat) (u : UInt8) (hx : x < 65536) : (call T (n + 4000) (.fn 17) [.iv (.rsl ta (bR a)), .iv (.i .u16 (x : Int)), .iv (.i .u8 (u.toNat : Int))] .empty).map Prod.fst = some (.iv (.b true)) := by
  have hf := call_fn (T := T) (f := 17) (fn := a17) (by kernel_rfl) (by kernel_rfl)
  have aw := fun q => isoAw aw02 (n + 3919) q
  by_cases h1 : 300 < (a.length : Int)
  · simp -implicitDefEqProofs [hf, a17, Go.Eng.C.v, Go.Eng.C.vg, Go.Eng.C.vh, Go.Eng.C.l, Go.Eng.C.lg, Go.Eng.C.lh, Go.Eng.C.f, Go.Eng.C.fg, Go.Eng.C.fh, Go.Eng.C.o, Go.Eng.C.og, Go.Eng.C.oh, Go.Eng.C.k, Go.Eng.C.kg, Go.Eng.C.kh, Go.Eng.C.s, Go.Eng.C.sg, Go.Eng.C.sh, run_skip, run_label, run_ret, run_exit, run_goto, run_seq, run_reg, run_cond, run_blk, run_loop, run_scope, run_forget, seqK_nrm, seqK_ret, seqK_exit, seqK_goto, loopK_nrm, loopK_ret, loopK_exit, loopK_goto, loop_step, jump_nrm, jump_ret, jump_exit, jump_goto, condK_true, condK_false, exitTo_nrm, exitTo_ret, exitTo_goto, exitTo_exit, callK_nrm, callK_ret, execs_nil, execs_cons, exec1, opV, AOp.cls, evalP, evalR, evalN, evalW, guardOf, setD, Eng.X.ev, bump0, List.replicate, Eng.results, resVal, cellsO, addAll, AH.add, AH.get, lk, AH.set, up, AH.del, Eng.del, fieldAddr, loadAt, storeAt, rowsOf, partV, AH.empty, AH.bump, calleeOf, shift, shiftC, binV, binI, partsOf, fillA, List.range, List.range.loop, aw, bR_len, h1]
  by_cases h2 : a = []
  · subst h2
    simp -implicitDefEqProofs [hf, a17, Go.Eng.C.v, Go.Eng.C.vg, Go.Eng.C.vh, Go.Eng.C.l, Go.Eng.C.lg, Go.Eng.C.lh, Go.Eng.C.f, Go.Eng.C.fg, Go.Eng.C.fh, Go.Eng.C.o, Go.Eng.C.og, Go.Eng.C.oh, Go.Eng.C.k, Go.Eng.C.kg, Go.Eng.C.kh, Go.Eng.C.s, Go.Eng.C.sg, Go.Eng.C.sh, run_skip, run_label, run_ret, run_exit, run_goto, run_seq, run_reg, run_cond, run_blk, run_loop, run_scope, run_forget, seqK_nrm, seqK_ret, seqK_exit, seqK_goto, loopK_nrm, loopK_ret, loopK_exit, loopK_goto, loop_step, jump_nrm, jump_ret, jump_exit, jump_goto, condK_true, condK_false, exitTo_nrm, exitTo_ret, exitTo_goto, exitTo_exit, callK_nrm, callK_ret, execs_nil, execs_cons, exec1, opV, AOp.cls, evalP, evalR, evalN, evalW, guardOf, setD, Eng.X.ev, bump0, List.replicate, Eng.results, resVal, cellsO, addAll, AH.add, AH.get, lk, AH.set, up, AH.del, Eng.del, fieldAddr, loadAt, storeAt, rowsOf, partV, AH.empty, AH.bump, calleeOf, shift, shiftC, binV, binI, partsOf, fillA, List.range, List.range.loop, aw, bR]
  have hpos : 0 < a.length := List.length_pos_iff.2 h2
  have h3 : ¬ (a.length : Int) = 0 := by omega
  have m0 : binI .eql .i64 (a.length : Int) 0 = some (.b false) := by simp [binI]; exact h2
  have m1 : IntKind.i64.wrap (x : Int) = x := wrapi (by omega) (by omega)
  have m2 : binI .rem .i64 (x : Int) (a.length : Int) = some (.i .i64 ((x % a.length : Nat) : Int)) := by
    simp only [binI]
    rw [if_neg h3, Int.tmod_eq_emod_of_nonneg (by omega)]
    simp
  have m3 : binI .gtr .i64 (a.length : Int) 300 = some (.b false) := by simp [binI]; omega
  have hi : x % a.length < a.length := Nat.mod_lt _ hpos
  generalize x % a.length = i at *
  obtain ⟨v, hv⟩ : ∃ v, a[i]? = some v := ⟨a[i], List.getElem?_eq_getElem hi⟩
  have r1 : roomy a.length 1 = true := roomy_small (by omega)
  have s1 := fun tg q => isoSum (n + 3999) (by omega) tg a (by omega) q
  have t1 := fun m bb r => isoSumSl (n + 3999) (by omega) m bb a.length none r (a.set i u) (by simp; omega) (by simp)
  have k1 : (a.set i u).take a.length = a.set i u := List.take_of_length_le (by simp)
  rw [k1] at t1
  have i1 := iad_bR ta a i v hv
  have i2 : ∀ b, indexAddr 1 (.sl b 1 0 a.length none) (i : Int) = some (.ptr b 1 i 0) := by
    intro b
    simp [indexAddr, inRange, hi]
  have b1 : (byteRows a)[i]? = some [.iv (.i .u8 (v.toNat : Int))] := by simp [byteRows, hv]
  have b2 : (byteRows a).set i [.iv (.i .u8 (u.toNat : Int))] = byteRows (a.set i u) := by simp [byteRows, List.map_set]
  have m4 : binI .eql .u8 (v.toNat : Int) (u.toNat : Int) = some (.b (v.toNat == u.toNat)) := by
    simp only [binI]
    congr 2
    rw [Bool.eq_iff_iff]
    simp only [beq_iff_eq]
    omega
  have m5 : binI .eql .u32 (packP (pairOf a)) (packP (pairOf (a.set i u))) = some (.b (v.toNat == u.toNat)) := by
    simp only [binI]
    congr 2
    have p1 := pair_lt a
    have p2 := pair_lt (a.set i u)
    have p3 := pair_set a i u v hv
    rw [Bool.eq_iff_iff]
    simp only [beq_iff_eq]
    rw [UInt8.toNat_inj, ← p3]
    constructor
    · intro e
      simp only [packP] at e
      exact Prod.ext (by omega) (by omega)
    · intro e
      rw [e]
  simp -implicitDefEqProofs (maxSteps := 2000000) [hf, a17, Go.Eng.C.v, Go.Eng.C.vg, Go.Eng.C.vh, Go.Eng.C.l, Go.Eng.C.lg, Go.Eng.C.lh, Go.Eng.C.f, Go.Eng.C.fg, Go.Eng.C.fh, Go.Eng.C.o, Go.Eng.C.og, Go.Eng.C.oh, Go.Eng.C.k, Go.Eng.C.kg, Go.Eng.C.kh, Go.Eng.C.s, Go.Eng.C.sg, Go.Eng.C.sh, run_skip, run_label, run_ret, run_exit, run_goto, run_seq, run_reg, run_cond, run_blk, run_loop, run_scope, run_forget, seqK_nrm, seqK_ret, seqK_exit, seqK_goto, loopK_nrm, loopK_ret, loopK_exit, loopK_goto, loop_step, jump_nrm, jump_ret, jump_exit, jump_goto, condK_true, condK_false, exitTo_nrm, exitTo_ret, exitTo_goto, exitTo_exit, callK_nrm, callK_ret, execs_nil, execs_cons, exec1, opV, AOp.cls, evalP, evalR, evalN, evalW, guardOf, setD, Eng.X.ev, bump0, List.replicate, Eng.results, resVal, cellsO, addAll, AH.add, AH.get, lk, AH.set, up, AH.del, Eng.del, fieldAddr, loadAt, storeAt, rowsOf, partV, AH.empty, AH.bump, calleeOf, shift, shiftC, binV, partsOf, fillA, List.range, List.range.loop, aw, bR_len, m0, m1, m2, m3, m4, m5, s1, t1, appendRows, rowsRead, bR_uni, bR_map, byteRows_len, take_bytes, r1, i1, i2, b1, b2]

end Go.Proofs.YtabhhckaclibaaaGreat
