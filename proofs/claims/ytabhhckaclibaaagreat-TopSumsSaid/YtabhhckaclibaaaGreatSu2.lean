/- What the functions of sums tell, at their arguments: part 2. -/
import Derived.Test.YtabhhckaclibaaaGreatSu1
set_option linter.all false
set_option maxRecDepth 100000
set_option maxHeartbeats 4000000
namespace Go.Proofs.YtabhhckaclibaaaGreat
open Go.Eng

theorem and_u32 {a b : Nat} (ha : a < 65535) (hb : b < 65535) : binI .and .u32 (packP (a, b)) 65535 = some (.i .u32 (a : Int)) := by
  simp only [binI, packP]
  have e1 : BitVec.ofInt IntKind.u32.bits ((b : Int) * 65536 + a) = BitVec.ofNat IntKind.u32.bits (b * 65536 + a) := by
    rw [show ((b : Int) * 65536 + a) = ((b * 65536 + a : Nat) : Int) by simp, BitVec.ofInt_natCast]
  have e2 : BitVec.ofInt IntKind.u32.bits (65535 : Int) = BitVec.ofNat IntKind.u32.bits 65535 := BitVec.ofInt_natCast _ 65535
  have hbits : IntKind.u32.bits = 32 := rfl
  rw [e1, e2, BitVec.toNat_and, BitVec.toNat_ofNat, BitVec.toNat_ofNat, hbits, Nat.mod_eq_of_lt (show b * 65536 + a < 2 ^ 32 by omega), Nat.mod_eq_of_lt (show 65535 < 2 ^ 32 by omega)]
  have e3 : (b * 65536 + a) &&& 65535 = (b * 65536 + a) % 65536 := Nat.and_two_pow_sub_one_eq_mod (b * 65536 + a) 16
  rw [e3, wrap32 (by omega) (by omega)]
  congr 2
  omega
theorem shr_u32 {a b : Nat} (ha : a < 65535) (hb : b < 65535) : shI .shr .u32 (packP (a, b)) 16 = some (.i .u32 (b : Int)) := by
  simp only [shI]
  rw [if_neg (by decide)]
  have e : (2 : Int) ^ min (Int.toNat 16) IntKind.u32.bits = 65536 := by decide
  have e' : ((2 : Int) ^ Int.toNat 16) = 65536 := by decide
  try rw [e]
  try rw [e']
  congr 2
  simp only [packP]
  rw [Int.fdiv_eq_ediv_of_nonneg _ (by decide)]
  omega

theorem joinC (n : Nat) (a b c d k : Nat) (ha : a < 65535) (hb : b < 65535) (hc : c < 65535) (hd : d < 65535) (hk : k ≤ 100000) : (call T (n + 6) (.fn 65) [.iv (.i .u32 (packP (a, b))), .iv (.i .u32 (packP (c, d))), .iv (.i .i64 (k : Int))] .empty).map Prod.fst =
    some (.tup [.iv (.i .u32 (packP (joinP (a, b) (c, d) k))), .iv (.i .i64 0)]) := by
  have hf := call_fn (T := T) (f := 65) (fn := a65) (by kernel_rfl) (by kernel_rfl)
  have g1 := and_u32 ha hb
  have g2 := and_u32 hc hd
  have g3 := shr_u32 ha hb
  have g4 := shr_u32 hc hd
  generalize packP (a, b) = pa at *
  generalize packP (c, d) = pc at *
  have w1 : IntKind.u64.wrap (a : Int) = a := wrap64 (by omega) (by omega)
  have w2 : IntKind.u64.wrap (b : Int) = b := wrap64 (by omega) (by omega)
  have w3 : IntKind.u64.wrap (c : Int) = c := wrap64 (by omega) (by omega)
  have w4 : IntKind.u64.wrap (d : Int) = d := wrap64 (by omega) (by omega)
  have w5 : IntKind.u64.wrap (k : Int) = k := wrap64 (by omega) (by omega)
  have l1 : ¬ (65535 : Int) ≤ a := by omega
  have l2 : ¬ (65535 : Int) ≤ b := by omega
  have l3 : ¬ (65535 : Int) ≤ c := by omega
  have l4 : ¬ (65535 : Int) ≤ d := by omega
  have l5 : ¬ (k : Int) < 0 := by omega
  have l6 : ¬ (2147483647 : Int) < k := by omega
  have hm : k * a ≤ 100000 * 65535 := Nat.mul_le_mul hk (by omega)
  have e1 : binI .add .u64 (a : Int) (c : Int) = some (.i .u64 ((a : Int) + c)) := add_u64 (by omega) (by omega)
  have e2 : binI .rem .u64 ((a : Int) + c) 65535 = some (.i .u64 (((joinP (a, b) (c, d) k).1 : Nat) : Int)) := by
    rw [rem_u64 (by omega)]; congr 2
  have e3 : binI .add .u64 (b : Int) (d : Int) = some (.i .u64 ((b : Int) + d)) := add_u64 (by omega) (by omega)
  have e4 : binI .mul .u64 (k : Int) (a : Int) = some (.i .u64 ((k * a : Nat) : Int)) := by
    simp only [binI]
    rw [show (k : Int) * a = ((k * a : Nat) : Int) by simp, wrap64 (by omega) (by omega)]
  have e5 : binI .add .u64 ((b : Int) + d) ((k * a : Nat) : Int) = some (.i .u64 ((b : Int) + d + (k * a : Nat))) := add_u64 (by omega) (by omega)
  have e6 : binI .rem .u64 ((b : Int) + d + (k * a : Nat)) 65535 = some (.i .u64 (((joinP (a, b) (c, d) k).2 : Nat) : Int)) := by
    rw [rem_u64 (by omega)]; congr 2
  have hi := fun q => isoPack (n + 4) q (joinP (a, b) (c, d) k).1 (joinP (a, b) (c, d) k).2 (Nat.mod_lt _ (by decide)) (Nat.mod_lt _ (by decide))
  have hpk : packP (joinP (a, b) (c, d) k) = packP ((joinP (a, b) (c, d) k).1, (joinP (a, b) (c, d) k).2) := rfl
  rw [hpk]
  generalize (joinP (a, b) (c, d) k).1 = x at *
  generalize (joinP (a, b) (c, d) k).2 = y at *
  generalize ((k * a : Nat) : Int) = ka at *
  have m1 : binI .lss .i64 0 2 = some (.b true) := rfl
  have m2 : binI .lss .i64 1 2 = some (.b true) := rfl
  have m3 : binI .lss .i64 2 2 = some (.b false) := rfl
  have m4 : binI .add .i64 0 1 = some (.i .i64 1) := rfl
  have m5 : binI .add .i64 1 1 = some (.i .i64 2) := rfl
  have m6 : binI .lss .i64 (k : Int) 0 = some (.b false) := by simp [binI]
  have m7 : binI .gtr .i64 (k : Int) 2147483647 = some (.b false) := by simp [binI]; omega
  have m8 : binI .geq .u64 (a : Int) 65535 = some (.b false) := by simp [binI]; omega
  have m9 : binI .geq .u64 (b : Int) 65535 = some (.b false) := by simp [binI]; omega
  have m10 : binI .geq .u64 (c : Int) 65535 = some (.b false) := by simp [binI]; omega
  have m11 : binI .geq .u64 (d : Int) 65535 = some (.b false) := by simp [binI]; omega
  simp -implicitDefEqProofs [hf, a65, Go.Eng.C.v, Go.Eng.C.vg, Go.Eng.C.vh, Go.Eng.C.l, Go.Eng.C.lg, Go.Eng.C.lh, Go.Eng.C.f, Go.Eng.C.fg, Go.Eng.C.fh, Go.Eng.C.o, Go.Eng.C.og, Go.Eng.C.oh, Go.Eng.C.k, Go.Eng.C.kg, Go.Eng.C.kh, Go.Eng.C.s, Go.Eng.C.sg, Go.Eng.C.sh, run_skip, run_label, run_ret, run_exit, run_goto, run_seq, run_reg, run_cond, run_blk, run_loop, run_scope, run_forget, seqK_nrm, seqK_ret, seqK_exit, seqK_goto, loopK_nrm, loopK_ret, loopK_exit, loopK_goto, loop_step, jump_nrm, jump_ret, jump_exit, jump_goto, condK_true, condK_false, exitTo_nrm, exitTo_ret, exitTo_goto, exitTo_exit, callK_nrm, callK_ret, execs_nil, execs_cons, exec1, opV, AOp.cls, evalP, evalR, evalN, evalW, guardOf, setD, Eng.X.ev, bump0, List.replicate, Eng.results, resVal, cellsO, addAll, AH.add, AH.get, lk, AH.set, up, AH.del, Eng.del, fieldAddr, loadAt, storeAt, rowsOf, partV, AH.empty, AH.bump, calleeOf, shift, shiftC, binV, partsOf, fillA, List.range, List.range.loop, g1, g2, g3, g4, w1, w2, w3, w4, w5, m1, m2, m3, m4, m5, m6, m7, m8, m9, m10, m11, e1, e2, e3, e4, e5, e6, hi, indexAddrA, inRange, mapO]

end Go.Proofs.YtabhhckaclibaaaGreat
