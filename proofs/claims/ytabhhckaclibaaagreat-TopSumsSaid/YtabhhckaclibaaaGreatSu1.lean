/- What the functions of sums tell, at their arguments. -/
import Derived.Test.YtabhhckaclibaaaGreatSp5
import Derived.Test.YtabhhckaclibaaaGreatSu0
set_option linter.all false
set_option maxRecDepth 100000
set_option maxHeartbeats 4000000
namespace Go.Proofs.YtabhhckaclibaaaGreat
open Go.Eng

theorem wrap64 {a : Int} (h : 0 ≤ a) (h' : a < 9223372036854775808) : IntKind.u64.wrap a = a := by
  simp only [IntKind.wrap, IntKind.signed, IntKind.bits]
  simp
  omega
theorem wrap32 {a : Int} (h : 0 ≤ a) (h' : a < 4294967296) : IntKind.u32.wrap a = a := by
  simp only [IntKind.wrap, IntKind.signed, IntKind.bits]
  simp
  omega
theorem wrapi {a : Int} (h : -9223372036854775808 ≤ a) (h' : a < 9223372036854775808) : IntKind.i64.wrap a = a := by
  simp only [IntKind.wrap, IntKind.signed, IntKind.bits]
  simp
  omega
theorem add_u64 {a b : Int} (h : 0 ≤ a + b) (h' : a + b < 9223372036854775808) : binI .add .u64 a b = some (.i .u64 (a + b)) := by simp only [binI, wrap64 h h']
theorem rem_u64 {a : Int} (h : 0 ≤ a) : binI .rem .u64 a 65535 = some (.i .u64 (a % 65535)) := by
  simp only [binI]
  rw [if_neg (by decide), Int.tmod_eq_emod_of_nonneg h]
theorem shl_u64 {b : Int} (h : 0 ≤ b) (h' : b < 65536) : shI .shl .u64 b 16 = some (.i .u64 (b * 65536)) := by
  simp only [shI]
  rw [if_neg (by decide)]
  have e : (2 : Int) ^ min (Int.toNat 16) IntKind.u64.bits = 65536 := by decide
  rw [e, wrap64 (by omega) (by omega)]
theorem or_u64 {a b : Nat} (ha : a < 65536) (hb : b < 65536) : binI .or .u64 ((b : Int) * 65536) (a : Int) = some (.i .u64 ((b : Int) * 65536 + a)) := by
  simp only [binI]
  have e1 : BitVec.ofInt IntKind.u64.bits ((b : Int) * 65536) = BitVec.ofNat IntKind.u64.bits (b * 65536) := by
    rw [show ((b : Int) * 65536) = ((b * 65536 : Nat) : Int) by simp, BitVec.ofInt_natCast]
  have e2 : BitVec.ofInt IntKind.u64.bits (a : Int) = BitVec.ofNat IntKind.u64.bits a := BitVec.ofInt_natCast _ _
  have hbits : IntKind.u64.bits = 64 := rfl
  rw [e1, e2, BitVec.toNat_or, BitVec.toNat_ofNat, BitVec.toNat_ofNat, hbits, Nat.mod_eq_of_lt (show b * 65536 < 2 ^ 64 by omega), Nat.mod_eq_of_lt (show a < 2 ^ 64 by omega)]
  have := Nat.two_pow_add_eq_or_of_lt (i := 16) ha b
  rw [Nat.mul_comm b 65536, show 65536 = 2 ^ 16 by rfl, ← this, wrap64 (by omega) (by omega)]
  congr 2
  omega

/-- A sum, packed. -/
def packP (p : Nat × Nat) : Int := (p.2 : Int) * 65536 + p.1

theorem packC (n : Nat) (a b : Nat) (ha : a < 65535) (hb : b < 65535) : (call T (n + 1) (.fn 115) [.agg [.iv (.i .u64 a), .iv (.i .u64 b)]] .empty).map Prod.fst = some (.iv (.i .u32 (packP (a, b)))) := by
  have hf := call_fn (T := T) (f := 115) (fn := a115) (by kernel_rfl) (by kernel_rfl)
  have e1 : shI .shl .u64 (b : Int) 16 = some (.i .u64 ((b : Int) * 65536)) := shl_u64 (by omega) (by omega)
  have e2 := or_u64 (a := a) (b := b) (by omega) (by omega)
  have e3 : IntKind.u32.wrap ((b : Int) * 65536 + a) = (b : Int) * 65536 + a := wrap32 (by omega) (by omega)
  simp -implicitDefEqProofs [hf, a115, Go.Eng.C.v, Go.Eng.C.vg, Go.Eng.C.vh, Go.Eng.C.l, Go.Eng.C.lg, Go.Eng.C.lh, Go.Eng.C.f, Go.Eng.C.fg, Go.Eng.C.fh, Go.Eng.C.o, Go.Eng.C.og, Go.Eng.C.oh, Go.Eng.C.k, Go.Eng.C.kg, Go.Eng.C.kh, Go.Eng.C.s, Go.Eng.C.sg, Go.Eng.C.sh, run_skip, run_label, run_ret, run_exit, run_goto, run_seq, run_reg, run_cond, run_blk, run_loop, run_scope, run_forget, seqK_nrm, seqK_ret, seqK_exit, seqK_goto, loopK_nrm, loopK_ret, loopK_exit, loopK_goto, loop_step, jump_nrm, jump_ret, jump_exit, jump_goto, condK_true, condK_false, exitTo_nrm, exitTo_ret, exitTo_goto, exitTo_exit, callK_nrm, callK_ret, execs_nil, execs_cons, exec1, opV, AOp.cls, evalP, evalR, evalN, evalW, guardOf, setD, Eng.X.ev, bump0, List.replicate, Eng.results, resVal, cellsO, addAll, AH.add, AH.get, lk, AH.set, up, AH.del, Eng.del, fieldAddr, loadAt, storeAt, rowsOf, partV, AH.empty, AH.bump, calleeOf, shift, shiftC, binV, partsOf, fillA, List.range, List.range.loop, e1, e2, e3, packP]

theorem lend_pair (h : AH) (a b : Int) : toIA h true (.agg [.iv (.i .u64 a), .iv (.i .u64 b)]) = some (.agg [.iv (.i .u64 a), .iv (.i .u64 b)]) := by
  simp [toIA, deep, mapO, toI_i]

theorem isoPack (n : Nat) (h : AH) (a b : Nat) (ha : a < 65535) (hb : b < 65535) : isoCall (call T (n + 1)) [] h (.fn 115) [.agg [.iv (.i .u64 a), .iv (.i .u64 b)]] = some (.iv (.i .u32 (packP (a, b))), []) :=
  iso_i (by simp only [mapO, lend_pair, Option.bind_some, Option.map_some]) (packC n a b ha hb)

/-- A byte is taken in. -/
theorem addC (n m : Nat) (a b : Nat) (u : UInt8) (ha : a < 65535) (hb : b < 65535) : call T (n + 1) (.fn 114) [.ptr 0 2 0 0, .iv (.i .u8 (u.toNat : Int))] ⟨m, [(0, .cells 2 [[.iv (.i .u64 a), .iv (.i .u64 b)]])]⟩ =
    some (.tup [], ⟨m, [(0, .cells 2 [[.iv (.i .u64 ((stepP (a, b) u).1 : Int)), .iv (.i .u64 ((stepP (a, b) u).2 : Int))]])]⟩) := by
  have hf := call_fn (T := T) (f := 114) (fn := a114) (by kernel_rfl) (by kernel_rfl)
  have hu := u.toNat_lt
  have e0 : IntKind.u64.wrap (u.toNat : Int) = u.toNat := wrap64 (by omega) (by omega)
  have e1 : binI .add .u64 (a : Int) (u.toNat : Int) = some (.i .u64 ((a : Int) + u.toNat)) := add_u64 (by omega) (by omega)
  have e2 : binI .rem .u64 ((a : Int) + u.toNat) 65535 = some (.i .u64 (((stepP (a, b) u).1 : Nat) : Int)) := by
    rw [rem_u64 (by omega)]; congr 2
  have hs : (stepP (a, b) u).1 < 65535 := Nat.mod_lt _ (by decide)
  have e3 : binI .add .u64 (b : Int) ((stepP (a, b) u).1 : Int) = some (.i .u64 ((b : Int) + ((stepP (a, b) u).1 : Int))) := add_u64 (by omega) (by omega)
  have e4 : binI .rem .u64 ((b : Int) + ((stepP (a, b) u).1 : Int)) 65535 = some (.i .u64 (((stepP (a, b) u).2 : Nat) : Int)) := by
    rw [rem_u64 (by omega)]; congr 2
  generalize (stepP (a, b) u).1 = x at *
  generalize (stepP (a, b) u).2 = y at *
  simp -implicitDefEqProofs [hf, a114, Go.Eng.C.v, Go.Eng.C.vg, Go.Eng.C.vh, Go.Eng.C.l, Go.Eng.C.lg, Go.Eng.C.lh, Go.Eng.C.f, Go.Eng.C.fg, Go.Eng.C.fh, Go.Eng.C.o, Go.Eng.C.og, Go.Eng.C.oh, Go.Eng.C.k, Go.Eng.C.kg, Go.Eng.C.kh, Go.Eng.C.s, Go.Eng.C.sg, Go.Eng.C.sh, run_skip, run_label, run_ret, run_exit, run_goto, run_seq, run_reg, run_cond, run_blk, run_loop, run_scope, run_forget, seqK_nrm, seqK_ret, seqK_exit, seqK_goto, loopK_nrm, loopK_ret, loopK_exit, loopK_goto, loop_step, jump_nrm, jump_ret, jump_exit, jump_goto, condK_true, condK_false, exitTo_nrm, exitTo_ret, exitTo_goto, exitTo_exit, callK_nrm, callK_ret, execs_nil, execs_cons, exec1, opV, AOp.cls, evalP, evalR, evalN, evalW, guardOf, setD, Eng.X.ev, bump0, List.replicate, Eng.results, resVal, cellsO, addAll, AH.add, AH.get, lk, AH.set, up, AH.del, Eng.del, fieldAddr, loadAt, storeAt, rowsOf, partV, AH.empty, AH.bump, calleeOf, shift, shiftC, binV, partsOf, fillA, List.range, List.range.loop, e0, e1, e2, e3, e4, mapO]

def sumBody : ACode := .seq (.reg 0 [(Go.Eng.C.o 11 (.bin .lss (.t 10) (.t 9)))]) (.seq (.cond (.t 11) .skip (.exit 0)) (.seq (.blk 1 (.seq (.reg 0 [(Go.Eng.C.o 12 (.iad 1 (.t 8) (.t 10))), (Go.Eng.C.l 13 12), (Go.Eng.C.v 6 13)]) (.reg 0 [(Go.Eng.C.v 14 4), (Go.Eng.C.v 15 6), (Go.Eng.C.o 16 (.call (.sh true) (.t 14) [(.t 15)]))]))) (.reg 0 [(Go.Eng.C.o 17 (.bin .add (.t 10) (.c (.iv (.i .i64 1))))), (Go.Eng.C.v 10 17)])))

theorem iad_bR (tg : Tag) (l : List UInt8) (j : Nat) (u : UInt8) (h : l[j]? = some u) : indexAddr 1 (.iv (.rsl tg (bR l))) (j : Int) = some (.iv (.rptr [.i .u8 (u.toNat : Int)] 0)) := by
  have hj : j < l.length := by
    rcases Nat.lt_or_ge j l.length with h' | h'
    · exact h'
    · rw [List.getElem?_eq_none h'] at h; cases h
  have h1 : inRange (j : Int) (bR l).length = some j := by
    simp only [inRange, bR_len]
    rw [if_pos ⟨by omega, by omega⟩]
    simp
  have h2 : (bR l)[j]? = some [.i .u8 (u.toNat : Int)] := by simp [bR, h]
  simp [indexAddr, h1, h2]

theorem sum_loop (n q m : Nat) (tg : Tag) (l : List UInt8) (hl : l.length < 4611686018427387904) (y1 y2 y5 y7 y18 y19 : AV) : ∀ (k F j a b : Nat) (x6 x11 x12 x13 x14 x15 x16 x17 : AV), j + k = l.length → k ≤ F → a < 65535 → b < 65535 →
    ∃ z6 z10 z11 z12 z13 z14 z15 z16 z17 : AV, loopN (run (call T (n + 1)) q sumBody) (F + 1) ⟨[.iv (.rsl tg (bR l)), y1, y2, .ptr 0 2 0 0, .fn 114 [.ptr 0 2 0 0] [], y5, x6, y7, .iv (.rsl tg (bR l)), .iv (.i .i64 (l.length : Int)), .iv (.i .i64 (j : Int)), x11, x12, x13, x14, x15, x16, x17, y18, y19], ⟨m, [(0, .cells 2 [[.iv (.i .u64 (a : Int)), .iv (.i .u64 (b : Int))]])]⟩, [], false⟩ =
      some (.exit 0, ⟨[.iv (.rsl tg (bR l)), y1, y2, .ptr 0 2 0 0, .fn 114 [.ptr 0 2 0 0] [], y5, z6, y7, .iv (.rsl tg (bR l)), .iv (.i .i64 (l.length : Int)), z10, z11, z12, z13, z14, z15, z16, z17, y18, y19], ⟨m, [(0, .cells 2 [[.iv (.i .u64 (((l.drop j).foldl stepP (a, b)).1 : Int)), .iv (.i .u64 (((l.drop j).foldl stepP (a, b)).2 : Int))]])]⟩, [], false⟩)
  | 0, F, j, a, b, x6, x11, x12, x13, x14, x15, x16, x17, hj, _, _, _ => by
    have h1 : ¬ (j : Int) < (l.length : Int) := by omega
    have h2 : l.drop j = [] := List.drop_eq_nil_of_le (by omega)
    refine ⟨x6, .iv (.i .i64 (j : Int)), .iv (.b false), x12, x13, x14, x15, x16, x17, ?_⟩
    rw [h2]
    simp -implicitDefEqProofs [sumBody, Go.Eng.C.v, Go.Eng.C.vg, Go.Eng.C.vh, Go.Eng.C.l, Go.Eng.C.lg, Go.Eng.C.lh, Go.Eng.C.f, Go.Eng.C.fg, Go.Eng.C.fh, Go.Eng.C.o, Go.Eng.C.og, Go.Eng.C.oh, Go.Eng.C.k, Go.Eng.C.kg, Go.Eng.C.kh, Go.Eng.C.s, Go.Eng.C.sg, Go.Eng.C.sh, run_skip, run_label, run_ret, run_exit, run_goto, run_seq, run_reg, run_cond, run_blk, run_loop, run_scope, run_forget, seqK_nrm, seqK_ret, seqK_exit, seqK_goto, loopK_nrm, loopK_ret, loopK_exit, loopK_goto, loop_step, jump_nrm, jump_ret, jump_exit, jump_goto, condK_true, condK_false, exitTo_nrm, exitTo_ret, exitTo_goto, exitTo_exit, callK_nrm, callK_ret, execs_nil, execs_cons, exec1, opV, AOp.cls, evalP, evalR, evalN, evalW, guardOf, setD, Eng.X.ev, bump0, List.replicate, Eng.results, resVal, cellsO, addAll, AH.add, AH.get, lk, AH.set, up, AH.del, Eng.del, fieldAddr, loadAt, storeAt, rowsOf, partV, AH.empty, AH.bump, calleeOf, shift, shiftC, binV, binI, partsOf, fillA, List.range, List.range.loop, h1]
  | k + 1, F, j, a, b, x6, x11, x12, x13, x14, x15, x16, x17, hj, hF, ha, hb => by
    obtain ⟨F, rfl⟩ : ∃ F', F = F' + 1 := ⟨F - 1, by omega⟩
    have h1 : (j : Int) < (l.length : Int) := by omega
    obtain ⟨u, hu⟩ : ∃ u, l[j]? = some u := ⟨l[j]'(by omega), List.getElem?_eq_getElem (by omega)⟩
    have h2 : l.drop j = u :: l.drop (j + 1) := by
      rw [List.drop_eq_getElem_cons (by omega)]
      congr 1
      rw [List.getElem?_eq_getElem (by omega)] at hu
      exact Option.some.inj hu
    have h3 := iad_bR tg l j u hu
    have h4 := addC n m a b u ha hb
    have h5 : IntKind.i64.wrap ((j : Int) + 1) = ((j + 1 : Nat) : Int) := by rw [wrapi (by omega) (by omega)]; simp
    have ih := sum_loop n q m tg l hl y1 y2 y5 y7 y18 y19 k F (j + 1) (stepP (a, b) u).1 (stepP (a, b) u).2 (.iv (.i .u8 (u.toNat : Int))) (.iv (.b true)) (.iv (.rptr [.i .u8 (u.toNat : Int)] 0)) (.iv (.i .u8 (u.toNat : Int))) (.fn 114 [.ptr 0 2 0 0] []) (.iv (.i .u8 (u.toNat : Int))) (.tup []) (.iv (.i .i64 ((j + 1 : Nat) : Int))) (by omega) (by omega) (Nat.mod_lt _ (by decide)) (Nat.mod_lt _ (by decide))
    obtain ⟨z6, z10, z11, z12, z13, z14, z15, z16, z17, ih⟩ := ih
    refine ⟨z6, z10, z11, z12, z13, z14, z15, z16, z17, ?_⟩
    rw [h2, List.foldl_cons, ← ih, loop_step]
    generalize ((j + 1 : Nat) : Int) = j' at *
    generalize (stepP (a, b) u).1 = xx at *
    generalize (stepP (a, b) u).2 = yy at *
    have hs : run (call T (n + 1)) q sumBody ⟨[.iv (.rsl tg (bR l)), y1, y2, .ptr 0 2 0 0, .fn 114 [.ptr 0 2 0 0] [], y5, x6, y7, .iv (.rsl tg (bR l)), .iv (.i .i64 (l.length : Int)), .iv (.i .i64 (j : Int)), x11, x12, x13, x14, x15, x16, x17, y18, y19], ⟨m, [(0, .cells 2 [[.iv (.i .u64 (a : Int)), .iv (.i .u64 (b : Int))]])]⟩, [], false⟩ =
        some (.nrm, ⟨[.iv (.rsl tg (bR l)), y1, y2, .ptr 0 2 0 0, .fn 114 [.ptr 0 2 0 0] [], y5, .iv (.i .u8 (u.toNat : Int)), y7, .iv (.rsl tg (bR l)), .iv (.i .i64 (l.length : Int)), .iv (.i .i64 j'), .iv (.b true), .iv (.rptr [.i .u8 (u.toNat : Int)] 0), .iv (.i .u8 (u.toNat : Int)), .fn 114 [.ptr 0 2 0 0] [], .iv (.i .u8 (u.toNat : Int)), .tup [], .iv (.i .i64 j'), y18, y19], ⟨m, [(0, .cells 2 [[.iv (.i .u64 (xx : Int)), .iv (.i .u64 (yy : Int))]])]⟩, [], false⟩) := by
      simp -implicitDefEqProofs [sumBody, Go.Eng.C.v, Go.Eng.C.vg, Go.Eng.C.vh, Go.Eng.C.l, Go.Eng.C.lg, Go.Eng.C.lh, Go.Eng.C.f, Go.Eng.C.fg, Go.Eng.C.fh, Go.Eng.C.o, Go.Eng.C.og, Go.Eng.C.oh, Go.Eng.C.k, Go.Eng.C.kg, Go.Eng.C.kh, Go.Eng.C.s, Go.Eng.C.sg, Go.Eng.C.sh, run_skip, run_label, run_ret, run_exit, run_goto, run_seq, run_reg, run_cond, run_blk, run_loop, run_scope, run_forget, seqK_nrm, seqK_ret, seqK_exit, seqK_goto, loopK_nrm, loopK_ret, loopK_exit, loopK_goto, loop_step, jump_nrm, jump_ret, jump_exit, jump_goto, condK_true, condK_false, exitTo_nrm, exitTo_ret, exitTo_goto, exitTo_exit, callK_nrm, callK_ret, execs_nil, execs_cons, exec1, opV, AOp.cls, evalP, evalR, evalN, evalW, guardOf, setD, Eng.X.ev, bump0, List.replicate, Eng.results, resVal, cellsO, addAll, AH.add, AH.get, lk, AH.set, up, AH.del, Eng.del, fieldAddr, loadAt, storeAt, rowsOf, partV, AH.empty, AH.bump, calleeOf, shift, shiftC, binV, binI, partsOf, fillA, List.range, List.range.loop, h1, h3, h4, h5, shCall]
    rw [hs]
    rfl

theorem isoSum0 (n : Nat) (tg : Tag) (l : List UInt8) (hl : l.length < 100000) (q : AH) (hc : (call T n (.fn 64) [.iv (.rsl (lt tg) (bR l))] .empty).map Prod.fst = some (.iv (.i .u32 (packP (pairOf l))))) : isoCall (call T n) [] q (.fn 64) [.iv (.rsl tg (bR l))] = some (.iv (.i .u32 (packP (pairOf l))), []) :=
  iso_i (by simp only [mapO, lend_rsl, Option.bind_some, Option.map_some]) hc

theorem sumC (n : Nat) (tg : Tag) (l : List UInt8) (hl : l.length < 100000) : (call T (n + l.length + 4) (.fn 64) [.iv (.rsl tg (bR l))] .empty).map Prod.fst = some (.iv (.i .u32 (packP (pairOf l)))) := by
  have hf := call_fn (T := T) (f := 64) (fn := a64) (by kernel_rfl) (by kernel_rfl)
  obtain ⟨z6, z10, z11, z12, z13, z14, z15, z16, z17, hw⟩ := sum_loop (n + l.length + 2) (n + l.length + 3) 1 tg l (by omega) .undef (.iv (.i .u32 0)) .undef (.fn 114 [.ptr 0 2 0 0] []) .undef .undef l.length (n + l.length + 2) 0 0 0 .undef .undef .undef .undef .undef .undef .undef .undef (by omega) (by omega) (by decide) (by decide)
  have hp := pair_lt l
  rw [List.drop_zero] at hw
  have e : l.foldl stepP (0, 0) = pairOf l := rfl
  rw [e] at hw
  have hk := fun q => isoPack (n + l.length + 2) q (pairOf l).1 (pairOf l).2 hp.1 hp.2
  generalize (pairOf l) = p at *
  obtain ⟨pa, pb⟩ := p
  simp only [sumBody, Go.Eng.C.v, Go.Eng.C.vg, Go.Eng.C.vh, Go.Eng.C.l, Go.Eng.C.lg, Go.Eng.C.lh, Go.Eng.C.f, Go.Eng.C.fg, Go.Eng.C.fh, Go.Eng.C.o, Go.Eng.C.og, Go.Eng.C.oh, Go.Eng.C.k, Go.Eng.C.kg, Go.Eng.C.kh, Go.Eng.C.s, Go.Eng.C.sg, Go.Eng.C.sh] at hw
  rw [show n + l.length + 2 + 1 = n + l.length + 3 from rfl, show ((0 : Nat) : Int) = 0 from rfl] at hw
  simp -implicitDefEqProofs [hf, a64, Go.Eng.C.v, Go.Eng.C.vg, Go.Eng.C.vh, Go.Eng.C.l, Go.Eng.C.lg, Go.Eng.C.lh, Go.Eng.C.f, Go.Eng.C.fg, Go.Eng.C.fh, Go.Eng.C.o, Go.Eng.C.og, Go.Eng.C.oh, Go.Eng.C.k, Go.Eng.C.kg, Go.Eng.C.kh, Go.Eng.C.s, Go.Eng.C.sg, Go.Eng.C.sh, run_skip, run_label, run_ret, run_exit, run_goto, run_seq, run_reg, run_cond, run_blk, run_loop, run_scope, run_forget, seqK_nrm, seqK_ret, seqK_exit, seqK_goto, jump_nrm, jump_ret, jump_exit, jump_goto, condK_true, condK_false, exitTo_nrm, exitTo_ret, exitTo_goto, exitTo_exit, callK_nrm, callK_ret, execs_nil, execs_cons, exec1, opV, AOp.cls, evalP, evalR, evalN, evalW, guardOf, setD, Eng.X.ev, bump0, List.replicate, Eng.results, resVal, cellsO, addAll, AH.add, AH.get, lk, AH.set, up, AH.del, Eng.del, fieldAddr, loadAt, storeAt, rowsOf, partV, AH.empty, AH.bump, calleeOf, shift, shiftC, binV, binI, partsOf, fillA, List.range, List.range.loop, bR_len, hk, hw]

/-- Whatever the fuel, where it is enough. -/
theorem isoSum (N : Nat) (hN : 2004 ≤ N) (tg : Tag) (l : List UInt8) (hl : l.length ≤ 2000) (q : AH) : isoCall (call T N) [] q (.fn 64) [.iv (.rsl tg (bR l))] = some (.iv (.i .u32 (packP (pairOf l))), []) := by
  obtain ⟨n, rfl⟩ : ∃ n, N = n + l.length + 4 := ⟨N - l.length - 4, by omega⟩
  exact isoSum0 _ tg l (by omega) q (sumC n (lt tg) l (by omega))

end Go.Proofs.YtabhhckaclibaaaGreat
