/- The engine, part 8: the operations that lay new blocks. -/
import Derived.Test.YtabhhckaclibaaaGreatEngD
import Derived.Laws.MakeOwn
set_option linter.all false
namespace Go.Eng

theorem CAs_flatten_replicate {x : Cx} {l : List AV} {vs : List Value} (h : CAs x l vs) : ∀ n, CAs x (List.replicate n l).flatten (List.replicate n vs).flatten
  | 0 => by simp [CAs]
  | n + 1 => by
    simp only [List.replicate_succ, List.flatten_cons]
    exact CAs_append h (CAs_flatten_replicate h n)

theorem rep_cells (z : Array Value) (hz : 0 < z.size) : ∀ m, ((Array.range (m * z.size)).map fun i => z[i % z.size]!).toList = (List.replicate m z.toList).flatten
  | 0 => by simp
  | m + 1 => by
    have ih := rep_cells z hz m
    simp only [Array.toList_map, Array.toList_range] at ih ⊢
    rw [Nat.add_mul, Nat.one_mul, List.range_add, List.map_append, ih, List.replicate_succ', List.flatten_append]
    congr 1
    simp only [List.map_map, List.flatten_singleton]
    refine List.ext_getElem (by simp) fun i h1 h2 => ?_
    simp only [List.length_map, List.length_range] at h1
    simp [Function.comp_def, Nat.add_mod, Nat.mod_eq_of_lt h1, h1]

theorem mem_flatten_replicate {vs : List Value} {n : Nat} (h : ∀ u ∈ vs, leafV u) : ∀ u ∈ (List.replicate n vs).flatten, leafV u := fun u hu => by
  obtain ⟨l, hl, hu⟩ := List.mem_flatten.1 hu
  rw [List.mem_replicate] at hl
  exact h u (hl.2 ▸ hu)

theorem chunks_flatten {α : Type} (sz : Nat) : ∀ (len : Nat) (cs : List α), cs.length = len * sz → ((List.range len).map fun j => (cs.drop (j * sz)).take sz).flatten = cs
  | 0, cs, h => by
    rw [Nat.zero_mul] at h
    rw [List.eq_nil_of_length_eq_zero h]; rfl
  | n + 1, cs, h => by
    rw [List.range_succ_eq_map, List.map_cons, List.flatten_cons, List.map_map]
    have ih := chunks_flatten sz n (cs.drop sz) (by rw [List.length_drop, h, Nat.add_mul]; omega)
    simp only [List.drop_drop] at ih
    have : ((fun j => List.take sz (List.drop (j * sz) cs)) ∘ Nat.succ) = fun j => List.take sz (List.drop (sz + j * sz) cs) := by
      funext j
      simp only [Function.comp_def, Nat.succ_eq_add_one, Nat.add_mul, Nat.one_mul, Nat.add_comm]
    rw [this, ih]
    simp

theorem fillA_length : ∀ {ps : List (Nat × List AV)} {l l' : List AV}, fillA l ps = some l' → l'.length = l.length
  | [], l, l', h => by simp only [fillA, Option.some.injEq] at h; subst h; rfl
  | (off, v) :: rest, l, l', h => by
    simp only [fillA] at h
    split at h
    · rename_i hle
      rw [fillA_length h]; simp; omega
    · cases h

theorem byteRows_flatten : ∀ l, (byteRows l).flatten = l.map fun u => AV.iv (.i .u8 u.toNat)
  | [] => rfl
  | u :: us => by
    have := byteRows_flatten us
    simp only [byteRows, List.map_cons, List.flatten_cons] at this ⊢
    rw [this]; rfl

section
variable {P : Program} {cfg : Cfg} {g : Nat} {x : Cx} {t : List AV} {a : Act} (ht : CAs x t a.tmps.toList)
include ht

theorem evalN_ok {o : Oper} {op : AOp} (hc : cOp P cfg g o = some op) {b : Nat} {v : AV} {bs : List Blk} (he : evalN t b op = some (v, bs)) :
    ∃ u w' obj blk, (execOp a.eval o).run P x.w = .ok (.value u) w' ∧ bs = [blk] ∧ Laid x.w w' obj ∧
      ∀ y : Cx, y.w = w' → y.R b → y.β b = some (x.w.heap.size, 0) → Step x y → CA y v u ∧ BlkOk P cfg y b blk := by
  have hi := cOp_inv hc
  cases op with
  | alc cells =>
    obtain ⟨T, z, ho, hz, rfl⟩ := hi
    simp only [evalN] at he
    split at he
    case isFalse => cases he
    rename_i hpos
    simp only [Option.some.injEq, Prod.mk.injEq] at he
    obtain ⟨rfl, rfl⟩ := he
    obtain ⟨zv, _, _, _, hrun, hok, htup, rfl⟩ := run_zeroT' hz
    refine ⟨.pointer (some ⟨x.w.heap.size, 0, none⟩), x.w.alloc (.cells zv.cells T), .cells zv.cells T, _, by simp [execOp, ho, Instr.alloc, hrun, newVar, newRow], rfl, laid_alloc _ _, fun y hw hR hβ hst => ?_⟩
    have hget : y.w.heap[x.w.heap.size]? = some (.cells zv.cells T (0, 0)) := by rw [hw, (laid_alloc _ _).get]; simp
    obtain ⟨g1, g2⟩ := cellsA_ok y hok htup
    refine ⟨by simp only [CA]; exact ⟨hR, _, _, hβ, by simp⟩, ?_⟩
    simp only [BlkOk]
    refine ⟨fun k off e => ?_, fun _ => ⟨_, _, hβ, hpos, by simp, ARows_of (vs := zv.cells.toList) (by simpa using g1) g2 fun j u hj => ?_⟩⟩
    · rw [hβ] at e
      simp only [Option.some.injEq, Prod.mk.injEq] at e
      exact ⟨_, _, _, e.1 ▸ hget, .inl rfl⟩
    · rw [Nat.zero_add, cell_of hget]; simpa using hj
  | box n y' =>
    obtain ⟨T, q, ho, hn, hq⟩ := hi
    simp only [evalN, Option.bind_eq_some_iff] at he
    obtain ⟨c, hco, he⟩ := he
    split at he
    case isFalse => cases he
    rename_i hpos
    simp only [Option.some.injEq, Prod.mk.injEq] at he
    obtain ⟨rfl, rfl⟩ := he
    refine ⟨.pointer (some ⟨x.w.heap.size, 0, none⟩), x.w.alloc (.cells (a.eval q).cells T), .cells (a.eval q).cells T, _, by simp [execOp, ho, Instr.box, newVar, newRow], rfl, laid_alloc _ _, fun y hw hR hβ hst => ?_⟩
    have hget : y.w.heap[x.w.heap.size]? = some (.cells (a.eval q).cells T (0, 0)) := by rw [hw, (laid_alloc _ _).get]; simp
    obtain ⟨g1, g2⟩ := cellsO_ok (CA_step hst _ _ (cX_ok ht hq)) hco
    refine ⟨by simp only [CA]; exact ⟨hR, _, _, hβ, by simp⟩, ?_⟩
    simp only [BlkOk]
    refine ⟨fun k off e => ?_, fun _ => ⟨_, _, hβ, hpos.2, by simpa using hpos.1, ARows_of (vs := (a.eval q).cells.toList) (by simpa using g1) g2 fun j u hj => ?_⟩⟩
    · rw [hβ] at e
      simp only [Option.some.injEq, Prod.mk.injEq] at e
      exact ⟨_, _, _, e.1 ▸ hget, .inl rfl⟩
    · rw [Nat.zero_add, cell_of hget]; simpa using hj
  | bsl sz len zero ps =>
    obtain ⟨T, e, z, parts, ho, hT, hsz, hz, rfl, hps⟩ := hi
    simp only [evalN] at he
    split at he
    case isFalse => cases he
    rename_i hc2
    obtain ⟨hzl, hpos, hsmall⟩ := hc2
    simp only [Option.bind_eq_some_iff, Option.map_eq_some_iff] at he
    obtain ⟨qs, hqs, cs, hcs, e2⟩ := he
    simp only [Prod.mk.injEq] at e2
    obtain ⟨rfl, rfl⟩ := e2
    obtain ⟨zv, it, hit, hiz, hrun, hok, htup, rfl⟩ := run_zeroT' hz
    have hsz' : it.size = sz := by simpa [sizeT, hit] using hsz
    obtain ⟨c1, c2⟩ := cellsA_ok x hok htup
    have hzs : zv.cells.size = sz := by rw [← hzl, ← CAs_length c1]; simp
    -- the zero cells
    have hzc : CAs x ((List.range len).flatMap fun _ => cellsA (ofVal zv)) ((Array.range (len * sz)).map fun i => zv.cells[i % zv.cells.size]!).toList := by
      have := rep_cells zv.cells (by omega) len
      rw [hzs] at this
      rw [hzs, this]
      have e : ((List.range len).flatMap fun _ => cellsA (ofVal zv)) = (List.replicate len (cellsA (ofVal zv))).flatten := by
        rw [List.flatMap_def, List.map_const', List.length_range]
      rw [e]
      exact CAs_flatten_replicate c1 len
    have hzlf : ∀ u ∈ ((Array.range (len * sz)).map fun i => zv.cells[i % zv.cells.size]!).toList, leafV u := by
      have := rep_cells zv.cells (by omega) len
      rw [hzs] at this
      rw [hzs, this]
      exact mem_flatten_replicate c2
    obtain ⟨p1, p2⟩ := parts_ok (place := fun i => some (i * sz, sz)) ht (parts := parts.toList) (ps := ps.map fun (i, x) => (i * sz, sz, x)) (by simp [mapO_length hps]) (fun i p q hp hq => by
      rw [List.getElem?_map, Option.map_eq_some_iff] at hq
      obtain ⟨q0, hq0, e⟩ := hq
      subst e
      have := mapO_get hps i hp hq0
      simp only [Option.map_eq_some_iff] at this
      obtain ⟨y', hy', e⟩ := this
      subst e
      exact ⟨rfl, hy'⟩) hqs
    obtain ⟨cells', f1, f2, f3⟩ := fill_ok (place := fun i => some (i * sz, sz)) _ qs _ _ cs hzc hzlf p1 p2 hcs
    have hrunB : (Instr.buildSlice T len (parts.map fun (i, x) => (i, a.eval x))).run P x.w = .ok (.slice (some ⟨x.w.heap.size, 0, none⟩) len len) (x.w.alloc (.cells cells' e)) := by
      have hsm : ¬ len * it.size > 2 ^ 24 := by rw [hsz']; omega
      by_cases h0 : len * it.size = 0
      · have h0' : len * sz = 0 := hsz' ▸ h0
        simp only [h0'] at f1
        rw [show ((Array.range 0).map fun i => zv.cells[i % zv.cells.size]!) = (#[] : Array Value) by simp] at f1
        rw [← hsz'] at f1
        simp [Instr.buildSlice, run_underlying hT, sizeOf, typeInfo, zeroValue, hit, hiz, h0, newRow]
        rw [show ((Array.range 0).map fun (x : Nat) => (default : Value)) = (#[] : Array Value) by simp, f1]
        simp
      · simp [Instr.buildSlice, run_underlying hT, sizeOf, typeInfo, zeroValue, hit, hiz, h0, newRow]
        rw [← hsz'] at f1
        rw [if_neg (by omega), f1]
        simp
    refine ⟨.slice (some ⟨x.w.heap.size, 0, none⟩) len len, x.w.alloc (.cells cells' e), .cells cells' e, _, by simp [execOp, ho, hrunB], rfl, laid_alloc _ _, fun y hw hR hβ hst => ?_⟩
    have hget : y.w.heap[x.w.heap.size]? = some (.cells cells' e (0, 0)) := by rw [hw, (laid_alloc _ _).get]; simp
    have hcl : cs.length = len * sz := by
      rw [fillA_length hcs, CAs_length hzc |>.symm]; simp
    have hcz : cells'.size = len * sz := by rw [← hcl, ← CAs_length f2]; simp
    refine ⟨?_, ?_⟩
    · simp only [CA]
      refine ⟨hR, _, _, rfl, Nat.le_refl _, by simp, .inr ⟨_, _, hβ, by simp, ⟨_, _, _, hget, by rw [hcz]; simp⟩, hpos⟩⟩
    · simp only [BlkOk]
      refine ⟨fun k off e' => ?_, fun _ => ⟨_, _, hβ, hpos, fun r hr => ?_, ARows_of (vs := cells'.toList) ?_ f3 fun j u hj => ?_⟩⟩
      · rw [hβ] at e'
        simp only [Option.some.injEq, Prod.mk.injEq] at e'
        exact ⟨_, _, _, e'.1 ▸ hget, .inl rfl⟩
      · simp only [List.mem_map, List.mem_range] at hr
        obtain ⟨j, hj, rfl⟩ := hr
        rw [List.length_take, List.length_drop, hcl]
        have : (j + 1) * sz ≤ len * sz := Nat.mul_le_mul_right _ hj
        rw [Nat.add_mul] at this
        omega
      · rw [chunks_flatten sz len cs hcl]
        exact CAs_step hst _ _ f2
      · rw [Nat.zero_add, cell_of hget]; simpa using hj
  | mks sz bytes zero l' c' =>
    obtain ⟨T, e, z, l, c, ho, hT, hsz, hbs, hz, rfl, hl, hcc⟩ := hi
    simp only [evalN] at he
    split at he
    case h_2 => cases he
    rename_i k1 n k2 m hl1 hc1
    split at he
    case isFalse => cases he
    rename_i hc2
    obtain ⟨hn0, hnm, hm40, hmb, hzl, hpos⟩ := hc2
    simp only [Option.some.injEq, Prod.mk.injEq] at he
    obtain ⟨rfl, rfl⟩ := he
    have e1 := cX_ok ht hl
    have e2 := cX_ok ht hcc
    rw [hl1] at e1
    rw [hc1] at e2
    have e1 := CA_i e1
    have e2 := CA_i e2
    obtain ⟨zv, it, hit, hiz, hrun, hok, htup, rfl⟩ := run_zeroT' hz
    have hsz' : it.size = sz := by simpa [sizeT, hit] using hsz
    have hbs' : it.bytes = bytes := by simpa [bytesT, hit] using hbs
    obtain ⟨c1, c2⟩ := cellsA_ok x hok htup
    have hzs : zv.cells.size = sz := by rw [← hzl, ← CAs_length c1]; simp
    have hw1 : IntKind.i64.wrap n = n := by simp only [IntKind.wrap, IntKind.bits, IntKind.signed]; simp; omega
    have hw2 : IntKind.i64.wrap m = m := by simp only [IntKind.wrap, IntKind.bits, IntKind.signed]; simp; omega
    have hrunM : (Instr.makeSlice T (a.eval l) (a.eval c)).run P x.w = .ok (.slice (some ⟨x.w.heap.size, 0, none⟩) n.toNat m.toNat) (x.w.alloc (.cells ((Array.range (m.toNat * sz)).map fun i => zv.cells[i % zv.cells.size]!) e)) := by
      rw [e1, e2, run_make (P := P) x.w T e it zv hT hit hiz k1 k2 n m hn0 hnm (by rw [hbs']; omega) (by omega), hsz']
      rfl
    refine ⟨_, _, _, _, by simp only [execOp, ho, Sem.run_bind, hrunM, Result.andThen_ok, Sem.run_pure]; rfl, rfl, laid_alloc _ _, fun y hw hR hβ hst => ?_⟩
    have hcl : ((Array.range (m.toNat * sz)).map fun i => zv.cells[i % zv.cells.size]!).toList = (List.replicate m.toNat zv.cells.toList).flatten := by
      have := rep_cells zv.cells (by omega) m.toNat
      rw [hzs] at this
      rw [hzs, this]
    have hcz : ((Array.range (m.toNat * sz)).map fun i => zv.cells[i % zv.cells.size]!).size = m.toNat * sz := by simp
    generalize ((Array.range (m.toNat * sz)).map fun i => zv.cells[i % zv.cells.size]!) = cells' at hcl hcz hw
    have hget : y.w.heap[x.w.heap.size]? = some (.cells cells' e (0, 0)) := by rw [hw, (laid_alloc _ _).get]; simp
    refine ⟨?_, ?_⟩
    · simp only [CA]
      refine ⟨hR, _, _, rfl, by omega, by simp, .inr ⟨_, _, hβ, by simp, ⟨_, _, _, hget, by rw [hcz]; simp⟩, hpos⟩⟩
    · simp only [BlkOk]
      refine ⟨fun k off e' => ?_, fun _ => ⟨_, _, hβ, hpos, fun r hr => ?_, ARows_of (vs := cells'.toList) ?_ ?_ fun j u hj => ?_⟩⟩
      · rw [hβ] at e'
        simp only [Option.some.injEq, Prod.mk.injEq] at e'
        exact ⟨_, _, _, e'.1 ▸ hget, .inl rfl⟩
      · rw [List.mem_replicate] at hr
        rw [hr.2, hzl]
      · rw [hcl]
        exact CAs_flatten_replicate (CAs_step hst _ _ c1) _
      · rw [hcl]; exact mem_flatten_replicate c2
      · rw [Nat.zero_add, cell_of hget]; simpa using hj
  | mkm =>
    obtain ⟨T, ho⟩ := hi
    simp only [evalN, Option.some.injEq, Prod.mk.injEq] at he
    obtain ⟨rfl, rfl⟩ := he
    refine ⟨.map (some x.w.heap.size), x.w.alloc (.map #[] 0), .map #[] 0, _, by simp [execOp, ho, Instr.makeMap], rfl, laid_alloc _ _, fun y hw hR hβ hst => ?_⟩
    have hget : y.w.heap[x.w.heap.size]? = some (.map #[] 0) := by rw [hw, (laid_alloc _ _).get]; simp
    refine ⟨by simp only [CA]; exact ⟨hR, _, _, hβ, rfl⟩, ?_⟩
    simp only [BlkOk]
    exact ⟨_, _, _, _, hβ, hget, by simp [Ents]⟩
  | s2b y' =>
    obtain ⟨T, U, e, q, ho, hT, hU, he8, hq⟩ := hi
    simp only [evalN] at he
    split at he
    case h_2 => cases he
    rename_i l hl
    simp only [Option.some.injEq, Prod.mk.injEq] at he
    obtain ⟨rfl, rfl⟩ := he
    have e1 := cX_ok ht hq
    rw [hl] at e1
    have e1 := CA_s e1
    have hr := run_bytes_of_string (P := P) x.w T U e ⟨l.toArray⟩ hT hU he8
    have hss : (ByteArray.mk l.toArray).size = l.length := by simp [ByteArray.size]
    refine ⟨_, _, _, _, by simp only [execOp, ho, Sem.run_bind, e1, hr, Result.andThen_ok, Sem.run_pure]; rfl, rfl, laid_drew _ _, fun y hw hR hβ hst => ?_⟩
    have hge := grownCap_ge x.w (ByteArray.mk l.toArray).size 0 e
    have hat := fun cap j hj => bytesRow_at (ByteArray.mk l.toArray) cap j hj
    have hbz : (bytesRow (ByteArray.mk l.toArray) (grownCap x.w (ByteArray.mk l.toArray).size 0 e)).size = grownCap x.w (ByteArray.mk l.toArray).size 0 e := by
      have : (ByteArray.mk l.toArray).data.size = (ByteArray.mk l.toArray).size := rfl
      simp only [bytesRow, Array.size_append, Array.size_map, Array.size_replicate]
      rw [this]
      omega
    generalize grownCap x.w (ByteArray.mk l.toArray).size 0 e = cap at *
    have hget : y.w.heap[x.w.heap.size]? = some (.cells (bytesRow (ByteArray.mk l.toArray) cap) e ((bytesRow (ByteArray.mk l.toArray) cap).size, (bytesRow (ByteArray.mk l.toArray) cap).size + 1)) := by rw [hw, (laid_drew _ _).get]; simp
    refine ⟨?_, ?_⟩
    · simp only [CA]
      refine ⟨hR, some ⟨x.w.heap.size, 0, none⟩, cap, by rw [hss], by omega, by simp, .inr ⟨_, _, hβ, by simp, ⟨_, _, _, hget, by rw [hbz]; simp⟩, by omega⟩⟩
    · simp only [BlkOk]
      refine ⟨fun k off e' => ?_, fun _ => ⟨_, _, hβ, by omega, fun r hr => ?_, ARows_of (vs := l.map fun u => Value.int .u8 u.toNat) ?_ (by simp [leafV]) fun j u hj => ?_⟩⟩
      · rw [hβ] at e'
        simp only [Option.some.injEq, Prod.mk.injEq] at e'
        exact ⟨_, _, _, e'.1 ▸ hget, .inr (Nat.le_refl _)⟩
      · simp only [byteRows, List.mem_map] at hr
        obtain ⟨_, _, rfl⟩ := hr
        rfl
      · have : (byteRows l).flatten = l.map fun u => AV.iv (.i .u8 u.toNat) := by
          exact byteRows_flatten l
        rw [this]
        exact CAs_map l fun u _ => CA_i' _ _ _
      · rw [Nat.zero_add, cell_of hget]
        simp only [List.getElem?_map, Option.map_eq_some_iff] at hj
        obtain ⟨u0, hu0, rfl⟩ := hj
        obtain ⟨hjl, hju⟩ := List.getElem?_eq_some_iff.1 hu0
        rw [hat cap j (by simpa using hjl)]
        simp [hju]
  | _ => simp [evalN] at he

end

end Go.Eng

