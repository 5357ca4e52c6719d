/- What the functions of spans tell, at their arguments: part 5. -/
import Derived.Test.YtabhhckaclibaaaGreatSp4
set_option linter.all false
set_option maxRecDepth 100000
set_option maxHeartbeats 4000000
namespace Go.Proofs.YtabhhckaclibaaaGreat
open Go.Eng

theorem oneC (n : Nat) (ta tb ta' tb' : Tag) (t : Int) (l h : List UInt8) (o : Bool) (t' : Int) (l' h' : List UInt8) (o' : Bool) : (call T (n + 1) (.fn 41) [.agg [.iv (.i .i64 t), .iv (.rsl ta (bR l)), .iv (.rsl tb (bR h)), .iv (.b o)], .agg [.iv (.i .i64 t'), .iv (.rsl ta' (bR l')), .iv (.rsl tb' (bR h')), .iv (.b o')]] .empty).map Prod.fst = some (.iv (.b (t == t' && (l == l' && (h == h' && o == o'))))) := by
  have hf := call_fn (T := T) (f := 41) (fn := a41) (by kernel_rfl) (by kernel_rfl)
  cases h1 : t == t'
  · simp -implicitDefEqProofs [hf, a41, Go.Eng.C.v, Go.Eng.C.vg, Go.Eng.C.vh, Go.Eng.C.l, Go.Eng.C.lg, Go.Eng.C.lh, Go.Eng.C.f, Go.Eng.C.fg, Go.Eng.C.fh, Go.Eng.C.o, Go.Eng.C.og, Go.Eng.C.oh, Go.Eng.C.k, Go.Eng.C.kg, Go.Eng.C.kh, Go.Eng.C.s, Go.Eng.C.sg, Go.Eng.C.sh, run_skip, run_label, run_ret, run_exit, run_goto, run_seq, run_reg, run_cond, run_blk, run_loop, run_scope, run_forget, seqK_nrm, seqK_ret, seqK_exit, seqK_goto, loopK_nrm, loopK_ret, loopK_exit, loopK_goto, loop_step, jump_nrm, jump_ret, jump_exit, jump_goto, condK_true, condK_false, exitTo_nrm, exitTo_ret, exitTo_goto, exitTo_exit, callK_nrm, callK_ret, execs_nil, execs_cons, exec1, opV, AOp.cls, evalP, evalR, evalN, evalW, guardOf, setD, Eng.X.ev, bump0, List.replicate, Eng.results, resVal, cellsO, addAll, AH.add, AH.get, lk, AH.set, up, AH.del, Eng.del, fieldAddr, loadAt, storeAt, rowsOf, partV, AH.empty, AH.bump, calleeOf, shift, shiftC, binV, binI, partsOf, fillA, List.range, List.range.loop, bR_bytes, str_eql, h1]
  cases h2 : l == l'
  · simp -implicitDefEqProofs [hf, a41, Go.Eng.C.v, Go.Eng.C.vg, Go.Eng.C.vh, Go.Eng.C.l, Go.Eng.C.lg, Go.Eng.C.lh, Go.Eng.C.f, Go.Eng.C.fg, Go.Eng.C.fh, Go.Eng.C.o, Go.Eng.C.og, Go.Eng.C.oh, Go.Eng.C.k, Go.Eng.C.kg, Go.Eng.C.kh, Go.Eng.C.s, Go.Eng.C.sg, Go.Eng.C.sh, run_skip, run_label, run_ret, run_exit, run_goto, run_seq, run_reg, run_cond, run_blk, run_loop, run_scope, run_forget, seqK_nrm, seqK_ret, seqK_exit, seqK_goto, loopK_nrm, loopK_ret, loopK_exit, loopK_goto, loop_step, jump_nrm, jump_ret, jump_exit, jump_goto, condK_true, condK_false, exitTo_nrm, exitTo_ret, exitTo_goto, exitTo_exit, callK_nrm, callK_ret, execs_nil, execs_cons, exec1, opV, AOp.cls, evalP, evalR, evalN, evalW, guardOf, setD, Eng.X.ev, bump0, List.replicate, Eng.results, resVal, cellsO, addAll, AH.add, AH.get, lk, AH.set, up, AH.del, Eng.del, fieldAddr, loadAt, storeAt, rowsOf, partV, AH.empty, AH.bump, calleeOf, shift, shiftC, binV, binI, partsOf, fillA, List.range, List.range.loop, bR_bytes, str_eql, h1, h2]
  cases h3 : h == h' <;> simp -implicitDefEqProofs [hf, a41, Go.Eng.C.v, Go.Eng.C.vg, Go.Eng.C.vh, Go.Eng.C.l, Go.Eng.C.lg, Go.Eng.C.lh, Go.Eng.C.f, Go.Eng.C.fg, Go.Eng.C.fh, Go.Eng.C.o, Go.Eng.C.og, Go.Eng.C.oh, Go.Eng.C.k, Go.Eng.C.kg, Go.Eng.C.kh, Go.Eng.C.s, Go.Eng.C.sg, Go.Eng.C.sh, run_skip, run_label, run_ret, run_exit, run_goto, run_seq, run_reg, run_cond, run_blk, run_loop, run_scope, run_forget, seqK_nrm, seqK_ret, seqK_exit, seqK_goto, loopK_nrm, loopK_ret, loopK_exit, loopK_goto, loop_step, jump_nrm, jump_ret, jump_exit, jump_goto, condK_true, condK_false, exitTo_nrm, exitTo_ret, exitTo_goto, exitTo_exit, callK_nrm, callK_ret, execs_nil, execs_cons, exec1, opV, AOp.cls, evalP, evalR, evalN, evalW, guardOf, setD, Eng.X.ev, bump0, List.replicate, Eng.results, resVal, cellsO, addAll, AH.add, AH.get, lk, AH.set, up, AH.del, Eng.del, fieldAddr, loadAt, storeAt, rowsOf, partV, AH.empty, AH.bump, calleeOf, shift, shiftC, binV, binI, partsOf, fillA, List.range, List.range.loop, bR_bytes, str_eql, h1, h2, h3]

theorem isoOne (n : Nat) (q : AH) (ta tb ta' tb' : Tag) (t : Int) (l h : List UInt8) (o : Bool) (t' : Int) (l' h' : List UInt8) (o' : Bool) : isoCall (call T (n + 1)) [] q (.fn 41) [.agg [.iv (.i .i64 t), .iv (.rsl ta (bR l)), .iv (.rsl tb (bR h)), .iv (.b o)], .agg [.iv (.i .i64 t'), .iv (.rsl ta' (bR l')), .iv (.rsl tb' (bR h')), .iv (.b o')]] = some (.iv (.b (t == t' && (l == l' && (h == h' && o == o')))), []) :=
  iso_b (by simp only [mapO, lend_sp, Option.bind_some, Option.map_some]) (oneC n (lt ta) (lt tb) (lt ta') (lt tb') t l h o t' l' h' o')

theorem bR_nil : bR [] = [] := rfl
theorem bR_app (a b : List UInt8) : bR a ++ bR b = bR (a ++ b) := by simp [bR]

theorem toP_sl (h : AH) (b sz st len : Nat) (cap : Option Nat) (n : Nat) : toI h false (n + 1) (.sl b sz st len cap) = (rowsOf h b sz).bind fun rows => if st + len ≤ rows.length then (mapO (fun row => mapO (toI h false n) row) ((rows.drop st).take len)).map (.rsl .p) else none := by simp [toI]
theorem toP_i (h : AH) (k : IntKind) (a : Int) (n : Nat) : toI h false (n + 1) (.iv (.i k a)) = some (.i k a) := by simp [toI, permB]
theorem toP_b (h : AH) (b : Bool) (n : Nat) : toI h false (n + 1) (.iv (.b b)) = some (.b b) := by simp [toI, permB]
theorem toP_nil (h : AH) (r : List (List IV)) (n : Nat) : toI h false (n + 1) (.iv (.rsl .n r)) = some (.rsl .p r) := by simp [toI]
theorem toP_p (h : AH) (r : List (List IV)) (n : Nat) : toI h false (n + 1) (.iv (.rsl .p r)) = some (.rsl .p r) := by simp [toI, permB]

theorem take_bytes (l : List UInt8) (n : Nat) (e : n = l.length) : (byteRows l).take n = byteRows l := by
  subst e; rw [← byteRows_len l, List.take_length]

theorem toP_byteRows (h : AH) (n : Nat) : ∀ l : List UInt8, mapO (fun row => mapO (toI h false (n + 1)) row) (byteRows l) = some (bR l) := toI_byteRows h n
theorem toP_bytes {h : AH} {b len : Nat} {l : List UInt8} (e : rowsOf h b 1 = some (byteRows l)) (hl : len = l.length) : toI h false deep (.sl b 1 0 len none) = some (.rsl .p (bR l)) := by
  subst hl
  have := toP_byteRows h 62 l
  simp only [deep, toP_sl, e, Option.bind_some, byteRows_len, Nat.zero_add, Nat.le_refl, if_true, List.drop_zero, take_bytes l _ rfl, this, Option.map_some]

/-- A result of four cells, none of them kept. -/
theorem harvest4 {h : AH} {a b c d : AV} {a' b' c' d' : IV} (ha : toI h false deep a = some a') (hb : toI h false deep b = some b') (hc : toI h false deep c = some c') (hd : toI h false deep d = some d') : harvest h [] (.agg [a, b, c, d]) = some (.agg [.iv a', .iv b', .iv c', .iv d'], []) := by
  simp [harvest, flatR, keptIds, nodupN, AH.dels, harvestCells, ha, hb, hc, hd, unflatR]

theorem cloneB (n : Nat) (t : Tag) (k : List UInt8) (hk : k.length ≤ 100) (h : AH) : call T (n + 1) (.fn 101) [.iv (.rsl t (bR k))] h = some (.sl (h.next + 1) 1 0 k.length none, (((h.bump 2).add h.next (.cells 1 [])).del h.next).add (h.next + 1) (.cells 1 (byteRows k))) := by
  have hp : T.prim 101 = some (primClone 1 1) := by kernel_rfl
  simp only [call, hp, primClone, rowsRead_bR, Option.bind_some, byteRows_len, roomy_small (show k.length ≤ 100000 by omega), if_true]

theorem isoClone (n : Nat) (t : Tag) (k : List UInt8) (hk : k.length ≤ 100) (h : AH) : isoCall (call T (n + 1)) [0] h (.fn 101) [.iv (.rsl t (bR k))] = some (.sl 0 1 0 k.length none, [.cells 1 (byteRows k)]) := by
  have hm : ∀ g : AH, mapO (fun row => mapO (fun x => (toI g false 64 x).map AV.iv) row) (byteRows k) = some (byteRows k) := by
    intro g
    induction k with
    | nil => rfl
    | cons u k ih =>
      have := ih (by simp at hk; omega)
      simp only [byteRows, List.map_cons] at this ⊢
      simp [mapO, toP_i, this]
  simp -implicitDefEqProofs [isoCall, mapO, lend_rsl, cloneB, hk, harvest, flatR, keptIds, nodupN, AH.dels, harvestCells, rowsOf, AH.get, lk, AH.add, AH.del, Eng.del, AH.bump, AH.empty, byteRows_len, take_bytes, deep, hm, unflatR]

theorem pointI (n : Nat) (h : AH) (tg : Tag) (t : Int) (k : List UInt8) (hk : k.length ≤ 100) : isoCall (call T (n + 3)) [] h (.fn 32) [.iv (.i .i64 t), .iv (.rsl tg (bR k))] = some (.agg [.iv (.i .i64 t), .iv (.rsl .p (bR k)), .iv (.rsl .p (bR (k ++ [0]))), .iv (.b false)], []) := by
  have hf := call_fn (T := T) (f := 32) (fn := a32) (by kernel_rfl) (by kernel_rfl)
  have hc := fun (h : AH) t => isoClone (n + 1) t k hk h
  have hq : roomy (k.length + 1) 1 = true := roomy_small (by omega)
  have hb : byteRows k ++ [[.iv (.i .u8 0)]] = byteRows (k ++ [0]) := by simp [byteRows]
  rw [iso_go]
  simp only [mapO, lend_i, lend_rsl, Option.bind_some, Option.map_some, isoK]
  simp -implicitDefEqProofs [hf, a32, Go.Eng.C.v, Go.Eng.C.vg, Go.Eng.C.vh, Go.Eng.C.l, Go.Eng.C.lg, Go.Eng.C.lh, Go.Eng.C.f, Go.Eng.C.fg, Go.Eng.C.fh, Go.Eng.C.o, Go.Eng.C.og, Go.Eng.C.oh, Go.Eng.C.k, Go.Eng.C.kg, Go.Eng.C.kh, Go.Eng.C.s, Go.Eng.C.sg, Go.Eng.C.sh, run_skip, run_label, run_ret, run_exit, run_goto, run_seq, run_reg, run_cond, run_blk, run_loop, run_scope, run_forget, seqK_nrm, seqK_ret, seqK_exit, seqK_goto, loopK_nrm, loopK_ret, loopK_exit, loopK_goto, loop_step, jump_nrm, jump_ret, jump_exit, jump_goto, condK_true, condK_false, exitTo_nrm, exitTo_ret, exitTo_goto, exitTo_exit, callK_nrm, callK_ret, execs_nil, execs_cons, exec1, opV, AOp.cls, evalP, evalR, evalN, evalW, guardOf, setD, Eng.X.ev, bump0, List.replicate, Eng.results, resVal, cellsO, addAll, AH.add, AH.get, lk, AH.set, up, AH.del, Eng.del, fieldAddr, loadAt, storeAt, rowsOf, partV, AH.empty, AH.bump, calleeOf, shift, shiftC, binV, binI, partsOf, fillA, List.range, List.range.loop, hc, appendRows, rowsRead, byteRows_len, take_bytes, hq, hb]
  rw [harvest4 (toP_i _ _ _ _) (toP_bytes (l := k) (by simp [rowsOf, AH.get, lk]) rfl) (toP_bytes (l := k ++ [0]) (by simp [rowsOf, AH.get, lk]) (by simp)) (toP_b _ _ _)]
  rfl

theorem rPointI (n : Nat) (h : AH) (tg : Tag) (t : Int) (k : List UInt8) (hk : k.length ≤ 100) : isoCall (call T (n + 3)) [] h (.fn 42) [.iv (.i .i64 t), .iv (.rsl tg (bR k))] = some (.agg [.iv (.i .i64 t), .iv (.rsl .p (bR k)), .iv (.rsl .p (bR (k ++ [0]))), .iv (.b false)], []) := by
  have hf := call_fn (T := T) (f := 42) (fn := a42) (by kernel_rfl) (by kernel_rfl)
  have hq : roomy (k.length + 1) 1 = true := roomy_small (by omega)
  have hq0 : roomy k.length 1 = true := roomy_small (by omega)
  have hb : byteRows k ++ [[.iv (.i .u8 0)]] = byteRows (k ++ [0]) := by simp [byteRows]
  rw [iso_go]
  simp only [mapO, lend_i, lend_rsl, Option.bind_some, Option.map_some, isoK]
  simp -implicitDefEqProofs [hf, a42, Go.Eng.C.v, Go.Eng.C.vg, Go.Eng.C.vh, Go.Eng.C.l, Go.Eng.C.lg, Go.Eng.C.lh, Go.Eng.C.f, Go.Eng.C.fg, Go.Eng.C.fh, Go.Eng.C.o, Go.Eng.C.og, Go.Eng.C.oh, Go.Eng.C.k, Go.Eng.C.kg, Go.Eng.C.kh, Go.Eng.C.s, Go.Eng.C.sg, Go.Eng.C.sh, run_skip, run_label, run_ret, run_exit, run_goto, run_seq, run_reg, run_cond, run_blk, run_loop, run_scope, run_forget, seqK_nrm, seqK_ret, seqK_exit, seqK_goto, loopK_nrm, loopK_ret, loopK_exit, loopK_goto, loop_step, jump_nrm, jump_ret, jump_exit, jump_goto, condK_true, condK_false, exitTo_nrm, exitTo_ret, exitTo_goto, exitTo_exit, callK_nrm, callK_ret, execs_nil, execs_cons, exec1, opV, AOp.cls, evalP, evalR, evalN, evalW, guardOf, setD, Eng.X.ev, bump0, List.replicate, Eng.results, resVal, cellsO, addAll, AH.add, AH.get, lk, AH.set, up, AH.del, Eng.del, fieldAddr, loadAt, storeAt, rowsOf, partV, AH.empty, AH.bump, calleeOf, shift, shiftC, binV, binI, partsOf, fillA, List.range, List.range.loop, appendRows, bR_uni, bR_map, rowsRead, byteRows_len, take_bytes, hq, hq0, hb]
  rw [harvest4 (toP_i _ _ _ _) (toP_bytes (l := k) (by simp [rowsOf, AH.get, lk]) rfl) (toP_bytes (l := k ++ [0]) (by simp [rowsOf, AH.get, lk]) (by simp)) (toP_b _ _ _)]
  rfl

theorem allI (n : Nat) (h : AH) (t : Int) : isoCall (call T (n + 3)) [] h (.fn 43) [.iv (.i .i64 t)] = some (.agg [.iv (.i .i64 t), .iv (.rsl .p (bR [])), .iv (.rsl .p (bR [])), .iv (.b true)], []) := by
  have hf := call_fn (T := T) (f := 43) (fn := a43) (by kernel_rfl) (by kernel_rfl)
  rw [iso_go]
  simp only [mapO, lend_i, lend_rsl, Option.bind_some, Option.map_some, isoK]
  simp -implicitDefEqProofs [hf, a43, Go.Eng.C.v, Go.Eng.C.vg, Go.Eng.C.vh, Go.Eng.C.l, Go.Eng.C.lg, Go.Eng.C.lh, Go.Eng.C.f, Go.Eng.C.fg, Go.Eng.C.fh, Go.Eng.C.o, Go.Eng.C.og, Go.Eng.C.oh, Go.Eng.C.k, Go.Eng.C.kg, Go.Eng.C.kh, Go.Eng.C.s, Go.Eng.C.sg, Go.Eng.C.sh, run_skip, run_label, run_ret, run_exit, run_goto, run_seq, run_reg, run_cond, run_blk, run_loop, run_scope, run_forget, seqK_nrm, seqK_ret, seqK_exit, seqK_goto, loopK_nrm, loopK_ret, loopK_exit, loopK_goto, loop_step, jump_nrm, jump_ret, jump_exit, jump_goto, condK_true, condK_false, exitTo_nrm, exitTo_ret, exitTo_goto, exitTo_exit, callK_nrm, callK_ret, execs_nil, execs_cons, exec1, opV, AOp.cls, evalP, evalR, evalN, evalW, guardOf, setD, Eng.X.ev, bump0, List.replicate, Eng.results, resVal, cellsO, addAll, AH.add, AH.get, lk, AH.set, up, AH.del, Eng.del, fieldAddr, loadAt, storeAt, rowsOf, partV, AH.empty, AH.bump, calleeOf, shift, shiftC, binV, binI, partsOf, fillA, List.range, List.range.loop]
  rw [harvest4 (toP_i _ _ _ _) (toP_nil _ _ _) (toP_nil _ _ _) (toP_b _ _ _)]
  rfl

end Go.Proofs.YtabhhckaclibaaaGreat
