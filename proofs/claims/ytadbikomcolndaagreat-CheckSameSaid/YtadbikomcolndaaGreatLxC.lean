/- The executor is sound, third part: code, functions, deferred calls; regions that draw their order, begun. No condition. -/
import Derived.Test.YtadbikomcolndaaGreatLxB
import Derived.AtR
import Derived.Recover
import Derived.Laws.NewFold
set_option linter.unusedVariables false

/- LX, part 19: the other operations that write. -/
namespace Go.LX
section
variable {P : Program} {φ : Phi} {H : Heap} {w : World}

theorem plain_alloc (w : World) (o : Obj) : PlainW w (w.alloc o) := ⟨rfl, rfl, rfl⟩
theorem mNew_some {cs : List LV} {x : LV} {H' : Heap} (h : mNew H cs = some (x, H')) : allOne cs = true ∧ x = .ptr H.next 0 ∧ H' = H.new (.cells (mkRow .lf 0 cs)) := by
  unfold mNew at h; rw [ib_some] at h; obtain ⟨h1, h2⟩ := h; cases h2; exact ⟨h1, rfl, rfl⟩
theorem new_cells (hs : Sim P φ H w) {cs : List LV} {xs : List Value} (hr : Rels φ cs xs) (ho : allOne cs = true) (e : TypeId) :
    Stp P φ H w (φ.set H.next (.blk w.heap.size 0 xs.length)) (H.new (.cells (mkRow .lf 0 cs))) (w.alloc (.cells xs.toArray e)) :=
  new_row (cur := xs.toArray) (e := e) (fr := (0, 0)) hs (fun _ _ h => h) (plain_alloc w _) rfl (by simp) (.inr (Nat.le_refl _)) hr (allOne_rel ho hr) (fun i v hv => by simpa using hv) (Nat.le_refl _)
theorem gives_newVar (hs : Sim P φ H w) {cs : List LV} {v : Value} (hr : Rels φ cs v.cells.toList) {x : LV} {H' : Heap} (h : mNew H cs = some (x, H')) (e : TypeId) :
    ∃ w' φ', (newVar e v).run P w = .ok ⟨w.heap.size, 0, none⟩ w' ∧ Rel φ' x (.pointer (some ⟨w.heap.size, 0, none⟩)) ∧ Stp P φ H w φ' H' w' := by
  obtain ⟨h1, rfl, rfl⟩ := mNew_some h
  refine ⟨_, _, ?_, ?_, new_cells hs hr h1 e⟩
  · simp [newVar, newRow]
  · have := Rel.ptr (φ := φ.set H.next (.blk w.heap.size 0 v.cells.toList.length)) (b := H.next) 0 (Phi.set_same _ _ _)
    simpa using this
theorem gives_store (hs : Sim P φ H w) {t : TypeId} {b : Bool} {n : Nat} (ht : aggOrOne P t = some (b, n)) {p : LV} {pv v : Value} (hp : Rel φ p pv) {cs : List LV} (hr : Rels φ cs v.cells.toList) (ho : allOne cs = true) (hn : cs.length = n) {H' : Heap} (h : storeRow p H cs = some H') :
    ∃ w', (Instr.storeAt t pv v).run P w = .ok () w' ∧ Stp P φ H w φ H' w' := by
  cases hp with
  | ptr o hφ =>
    rename_i q B base lim
    have h' : (ob (H.cells q) fun t => ob (putRow t o cs) fun t' => some (H.setO q (.cells t'))) = some H' := h
    simp only [ob_some] at h'
    obtain ⟨tr, htr, t', ht', e⟩ := h'
    cases e
    have hb := cells_some htr
    obtain ⟨B', base', lim', hφ', hc⟩ := hs.cells hb
    obtain ⟨rfl, rfl, rfl⟩ := phi_blk hφ hφ'
    obtain ⟨d, i, hd, hi, hsz, _, _⟩ := aggOrOne_some ht
    obtain ⟨h1, h2⟩ := putRow_some ht'
    have hle : cs = [] ∨ o + cs.length ≤ lim := by
      rcases Nat.eq_zero_or_pos cs.length with h0 | h0
      · exact .inl (List.eq_nil_of_length_eq_zero h0)
      · obtain ⟨y, hy⟩ := Option.isSome_iff_exists.1 (h2 (cs.length - 1) (by omega))
        have := (hc.known _ _ hy).1
        exact .inr (by omega)
    obtain ⟨h3, h4⟩ := write_row hs hb hφ hc (o := o) hr (allOne_rel ho hr) hle
    rw [h1]
    refine ⟨_, ?_, h4⟩
    have hsize : v.cells.size = i.size := by rw [← Array.length_toList, hr.length, hn, hsz]
    simp [Instr.storeAt, Instr.sureAddr, storeVar, run_sizeOf' hi, hsize, h3]
  | _ => cases h
theorem gives_strToBytes (hs : Sim P φ H w) {src dst e : TypeId} (h1 : P.underlying src = some .string) (h2 : P.underlying dst = some (.slice e)) (h3 : P.underlying e = some (.int .u8)) {a x : LV} {v : Value} {c : Nat × List LV} {H' : Heap} (ha : Rel φ a v) (hc : strCells a = some c)
    (h : appFresh H 1 c.1 H.t (mkRow .lf 0 c.2) = some (x, H')) : MemRun P φ H w (convert src dst v) x H' := by
  obtain ⟨hle, rfl, rfl⟩ := appFresh_some h
  cases ha with
  | str l n hn =>
    have h' : some (l, bytesRow l n 0 l) = some c := hc
    cases h'
    have hr := bytesRow_rel (φ := φ) l n l 0 (by omega)
    rw [List.drop_zero, List.take_of_length_le (by simp)] at hr
    have hge := grownCap_ge w l 0 e
    have hmx := grownCap_le_maxLen w l 0 e (Nat.le_trans hle (by decide))
    have hrun := run_bytes_of_string (P := P) w src dst e (bytesOf l n) h1 h2 h3
    rw [bytesOf_size] at hrun
    generalize grownCap w l 0 e = cp at hge hmx hrun
    have hCs : (Go.bytesRow (bytesOf l n) cp).size = cp := by
      have hd : (bytesOf l n).data.size = l := by simp [bytesOf]
      simp [Go.bytesRow, hd]; omega
    refine ⟨_, _, φ.set H.next (.blk w.heap.size 0 cp), hrun, ?_, ?_⟩
    · exact .slice _ _ _ _ cp _ (Phi.set_same _ _ _) hge hmx (by simp) (.inl rfl) (.inr rfl)
    · refine new_row (cur := Go.bytesRow (bytesOf l n) cp) (e := e) (fr := ((Go.bytesRow (bytesOf l n) cp).size, (Go.bytesRow (bytesOf l n) cp).size + 1)) (w' := w.drew.alloc (.cells (Go.bytesRow (bytesOf l n) cp) e ((Go.bytesRow (bytesOf l n) cp).size, (Go.bytesRow (bytesOf l n) cp).size + 1))) hs (fun _ _ h => h) ⟨rfl, rfl, rfl⟩ rfl (by rw [hCs]; exact Nat.le_refl _) (.inl (by rw [hCs]; exact Nat.le_refl _)) hr (fun q hq => by obtain ⟨b, _, rfl⟩ := List.mem_map.1 hq; rfl) (fun j q hj => ?_) (by simpa using hge)
      have hlt : j < l := by have := (List.getElem?_eq_some_iff.1 hj).1; simpa using this
      unfold Go.bytesRow
      rw [Array.getElem?_append_left (by simp [bytesOf, hlt])]
      rw [← hj, ← Array.getElem?_toList]
      simp [bytesOf]
  | _ => cases hc
theorem rep_length (z : List LV) : ∀ n, (rep n z).length = n * z.length
  | 0 => by simp [rep]
  | n+1 => by rw [rep, List.length_append, rep_length z n, Nat.succ_mul]; omega
theorem rep_get (z : List LV) : ∀ (n j : Nat), j < n * z.length → (rep n z)[j]? = z[j % z.length]?
  | 0, j, h => by simp at h
  | n+1, j, h => by
    rw [rep, List.getElem?_append]
    split
    · rename_i hlt; rw [Nat.mod_eq_of_lt hlt]
    · rename_i hge
      have hm : j % z.length = (j - z.length) % z.length := Nat.mod_eq_sub_mod (Nat.le_of_not_lt hge)
      rw [rep_get z n (j - z.length) (by rw [Nat.succ_mul] at h; omega), hm]
theorem zeros_rel {z : List LV} {zv : Array Value} (hz : Rels φ z zv.toList) (n : Nat) : Rels φ (rep n z) ((Array.range (n * z.length)).map fun i => zv[i % zv.size]!).toList := by
  have hsz : zv.size = z.length := by rw [← Array.length_toList, hz.length]
  refine Rels.of_get (by simp [rep_length]) fun j x hj => ?_
  have hlt : j < n * z.length := by have := (List.getElem?_eq_some_iff.1 hj).1; rwa [rep_length] at this
  rw [rep_get z n j hlt] at hj
  obtain ⟨v, hv, hr⟩ := hz.get hj
  refine ⟨v, ?_, hr⟩
  rw [Array.getElem?_toList] at hv
  rw [Array.getElem?_toList, Array.getElem?_map, Array.getElem?_range, if_pos hlt]
  simp only [Option.map_some, hsz]
  rw [getElem!_def, hv]
theorem gives_mkSlice (hs : Sim P φ H w) {t e : TypeId} {i : TypeInfo} {z : LV} (ht : P.underlying t = some (.slice e)) (hi : P.info? e = some i) (hz : zeroOf P e = some z) (hlen : (cellsOf z).length = i.size) (hpos : 0 < i.size) (hby : i.bytes ≤ 65536) (hone : allOne (cellsOf z) = true)
    {l c : Nat} {k k' : IntKind} (hlc : l ≤ c) (hc : c ≤ 16384) : MemRun P φ H w (Instr.makeSlice t (.int k (.ofNat l)) (.int k' (.ofNat c))) (.slice H.next 0 l i.size (Nat.succ c)) (H.new (.cells (mkRow .lf 0 (rep c (cellsOf z))))) := by
  obtain ⟨i', zv, hi', hzv, hzr, hzrun⟩ := zeroOf_some (φ := φ) (w := w) hz
  rw [hi] at hi'; cases hi'
  have hcr := cellsOf_sound hzr
  have hzs : zv.cells.size = i.size := by rw [← Array.length_toList, hcr.length, hlen]
  have hrel := zeros_rel hcr c
  have hone2 : ∀ v ∈ zv.cells.toList, v.oneCell' = true := by
    exact allOne_rel hone hcr
  have hall : ∀ v ∈ ((Array.range (c * (cellsOf z).length)).map fun i => zv.cells[i % zv.cells.size]!).toList, v.oneCell' = true := by
    intro v hv
    simp only [Array.toList_map, List.mem_map] at hv
    obtain ⟨j, _, rfl⟩ := hv
    have hlt : j % zv.cells.size < zv.cells.size := Nat.mod_lt _ (by omega)
    rw [getElem!_pos zv.cells _ hlt]
    exact hone2 _ (by simp)
  rw [hlen] at hrel hall
  have hwl : IntKind.i64.wrap (.ofNat l) = .ofNat l := wrap_ofNat (by simp only [limK]; omega)
  have hwc : IntKind.i64.wrap (.ofNat c) = .ofNat c := wrap_ofNat (by simp only [limK]; omega)
  have hb48 : ¬ (i.bytes * c > 281474976710656) := by
    have : i.bytes * c ≤ 65536 * 16384 := Nat.mul_le_mul hby hc
    omega
  have hrun : (Instr.makeSlice t (.int k (.ofNat l)) (.int k' (.ofNat c))).run P w = .ok (.slice (some ⟨w.heap.size, 0, none⟩) l c) (w.alloc (.cells ((Array.range (c * i.size)).map fun j => zv.cells[j % zv.cells.size]!) e)) := by
    have h1 : (decide ((Int.ofNat c : Int) < 0) || decide ((i.bytes : Int) * Int.ofNat c > 2 ^ 48)) = false := by
      rw [Bool.or_eq_false_iff]
      refine ⟨by simp, ?_⟩
      rw [decide_eq_false_iff_not]
      intro hgt
      have : ((i.bytes * c : Nat) : Int) > 281474976710656 := by
        rw [Int.natCast_mul]; exact hgt
      exact hb48 (by omega)
    have h2 : decide ((Int.ofNat l : Int) < 0) = false := by simp
    have h3 : decide ((Int.ofNat l : Int) > Int.ofNat c) = false := by
      rw [decide_eq_false_iff_not]
      show ¬ ((l : Int) > (c : Int))
      omega
    simp only [Instr.makeSlice, Sem.run_bind, run_underlying ht, Result.andThen_ok, asInt, asIntOf, Sem.run_pure, typeInfo, run_program, hi, hwl, hwc]
    by_cases hn : c * i.size = 0
    · have : c = 0 := by rcases Nat.mul_eq_zero.1 hn with h | h <;> omega
      subst this
      have : l = 0 := by omega
      subst this
      simp [run_sizeOf' hi, newRow]
      congr 2
      simp
    · simp [run_sizeOf' hi, hzrun, newRow, hn]
      omega
  refine ⟨_, _, φ.set H.next (.blk w.heap.size 0 (c * i.size)), hrun, ?_, ?_⟩
  · exact .slice _ _ _ _ c _ (Phi.set_same _ _ _) hlc (Nat.le_trans hc (by decide)) (by simp) (.inr rfl) (.inr rfl)
  · exact new_row (e := e) (fr := (0, 0)) (cur := (Array.range (c * i.size)).map fun j => zv.cells[j % zv.cells.size]!) hs (fun _ _ h => h) (plain_alloc w _) rfl (by simp) (.inr (Nat.le_refl _)) hrel hall (fun j v hj => by rwa [Array.getElem?_toList] at hj) (by simp)
end
end Go.LX

/- LX, part 20: maps that are written; the law of the operations that write. -/
namespace Go.LX
section
variable {P : Program} {φ : Phi} {H : Heap} {w : World}

theorem bytes_ext {s z : ByteArray} (h : (s.toList == z.toList) = true) : s = z := by
  have h1 : s.toList = z.toList := by simpa using h
  have h2 : ∀ b : ByteArray, b.toList = b.data.toList := fun b => ByteArray.toList_eq b
  rw [h2, h2] at h1
  cases s; cases z
  congr 1
  exact Array.ext' h1
theorem eqAtom_same (n : Nat) {x y : LV} {u v : Value} (h : eqAtom x y = some true) (hx : Rel φ x u) (hy : Rel φ y v) : v = u ∧ Instr.sameBits n v u = true := by
  rcases eqAtom_some h hx hy with ⟨k, a, b, rfl, rfl, e⟩ | ⟨s, z, rfl, rfl, e⟩
  · have : a = b := by simpa using e.symm
    subst this
    cases n <;> simp [Instr.sameBits]
  · have := bytes_ext e.symm
    subst this
    have hb : (s == s) = true := by rw [beq_toListBytes]; simp
    cases n <;> exact ⟨rfl, by simp [Instr.sameBits, hb]⟩
theorem eqAtoms_same (n : Nat) : ∀ {xs ys : List LV} {us vs : List Value}, eqAtoms xs ys = some true → Rels φ xs us → Rels φ ys vs → vs = us ∧ ((vs.zip us).all fun (x, y) => Instr.sameBits n x y) = true
  | [], [], _, _, _, .nil, .nil => ⟨rfl, rfl⟩
  | x :: xs, y :: ys, _, _, h, .cons h1 h2, .cons h3 h4 => by
    have h' : (ob (eqAtom x y) fun b => ib b (eqAtoms xs ys) (some false)) = some true := h
    obtain ⟨b, hb, hr⟩ := ob_some.1 h'
    cases b with
    | false => cases hr
    | true =>
      obtain ⟨e1, e2⟩ := eqAtom_same n hb h1 h3
      obtain ⟨e3, e4⟩ := eqAtoms_same n hr h2 h4
      subst e1 e3
      exact ⟨rfl, by simp only [List.zip_cons_cons, List.all_cons, e2, e4, Bool.true_and]⟩
  | [], _ :: _, _, _, h, _, _ => by cases h
  | _ :: _, [], _, _, h, _, _ => by cases h
theorem key_same {t : TypeId} {x y : LV} {u v : Value} (hk : KeyV P φ t x u) (hy : Rel φ y v) (h : eqKey x y = some true) : (Instr.keyThatStays v u).run P w = .ok u w ∧ Rel φ y u := by
  suffices hs : v = u ∧ Instr.sameBits 10000 v u = true by
    obtain ⟨e, hb⟩ := hs
    subst e
    exact ⟨by simp [Instr.keyThatStays, hb], hy⟩
  cases hk with
  | atom ht hx hv => rw [eqKey_atom (atomV_agg hx hv)] at h; exact eqAtom_same _ h hx hy
  | flat ha ht hs hx =>
    have h' : (ob (aggOf y) fun ys => eqAtoms _ ys) = some true := h
    obtain ⟨ys, h1, h2⟩ := ob_some.1 h'
    rw [aggOf_some h1] at hy
    obtain ⟨vs, rfl, hys⟩ := rel_agg hy
    obtain ⟨e1, e2⟩ := eqAtoms_same 9999 h2 hx hys
    subst e1
    refine ⟨rfl, ?_⟩
    have : Instr.sameBits (9999 + 1) (.agg vs.toArray) (.agg vs.toArray) = true := by
      simp only [Instr.sameBits, beq_self_eq_true, Bool.true_and]
      exact e2
    exact this

theorem EntsRel.set {e : Ent} {m : MapEntry} (hr : EntRel φ e m) : ∀ {es : List Ent} {ms : List MapEntry} (j : Nat), EntsRel φ es ms → EntsRel φ (es.set j e) (ms.set j m)
  | _, _, j, .nil => .nil
  | _, _, 0, .cons h h' => .cons hr h'
  | _, _, j+1, .cons h h' => .cons h (EntsRel.set hr j h')
theorem EntsRel.eraseIdx : ∀ {es : List Ent} {ms : List MapEntry} (j : Nat), EntsRel φ es ms → EntsRel φ (es.eraseIdx j) (ms.eraseIdx j)
  | _, _, j, .nil => .nil
  | _, _, 0, .cons h h' => h'
  | _, _, j+1, .cons h h' => .cons h (EntsRel.eraseIdx j h')
theorem modify_toList {ms : Array MapEntry} {j : Nat} {m : MapEntry} (f : MapEntry → MapEntry) (h : ms.toList[j]? = some m) : (ms.modify j f).toList = ms.toList.set j (f m) := by
  have hlt : j < ms.size := by have := (List.getElem?_eq_some_iff.1 h).1; simpa using this
  apply List.ext_getElem?
  intro i
  rw [Array.getElem?_toList, Array.getElem?_modify, List.getElem?_set]
  split
  · rename_i e; subst e
    have h2 : ms[j]? = some m := by rw [← Array.getElem?_toList]; exact h
    have h3 : ms[j] = m := by rw [Array.getElem?_eq_getElem hlt] at h2; injection h2
    simp [hlt, h3]
  · rw [Array.getElem?_toList]
theorem run_put {r : Nat} {ms : Array MapEntry} {c : Nat} {x : Obj} (h : w.heap[r]? = some (.map ms c)) : (setObj r x).run P w = .ok () { w with heap := w.heap.setIfInBounds r x } := run_setObj h (by simp)

theorem Stp.congr {φ' : Phi} {H' H'' : Heap} {w' : World} (h : Stp P φ H w φ' H' w') (hn : H''.next = H'.next) (ht : ∀ p, H''.t.get p = H'.t.get p) (hf : H''.fs = H'.fs := by rfl) : Stp P φ H w φ' H'' w' :=
  ⟨⟨by rw [hn]; exact h.sim.fresh, fun p o hp => h.sim.blk p o (by rwa [ht] at hp), fun p q o o' B hp hq => h.sim.sep p q o o' B (by rwa [ht] at hp) (by rwa [ht] at hq), by rw [hf]; exact h.sim.facts⟩, h.le, h.low, h.fr,
    fun p o B hp => h.foot p o B (by rwa [ht] at hp), by rw [hn]; exact h.next⟩
theorem Stp.put_same {φ' : Phi} {m : Pos} {o : LO} {w' : World} (h : Stp P φ H w φ' (H.setO m o) w') (hm : H.t.get m = some o) : Stp P φ H w φ' H w' := by
  refine h.congr rfl fun p => ?_
  show _ = (H.t.put (some o) m).get p
  rw [Trie.get_put]
  split
  · rename_i e; rw [e, hm]
  · rfl

/-- of what is asked of an operation that writes and gives nothing -/
def UnitRun (P : Program) (φ : Phi) (H : Heap) (w : World) (s : Sem Unit) (H' : Heap) : Prop := ∃ w', s.run P w = .ok () w' ∧ Stp P φ H w φ H' w'

theorem gives_mapUpdate (hs : Sim P φ H w) {t kt e : TypeId} {k : KT} {kv vv x : LV} {u v y : Value} {m : Pos} {o : LO} {es : List Ent × Nat} {H' : Heap} {r : Option Ent} (ht : P.underlying t = some (.map kt e)) (hk : keyT P kt = some k)
    (hok : keyOk k kv = true) (hv : Rel φ kv v) (hy : Rel φ vv y) (hm : Rel φ (.map m) u) (h1 : H.t.get m = some o) (h2 : o.asMap = some es) (h3 : findEnt kv es.1 = some r)
    (h4 : (@Option.rec Ent (fun _ => MR) (some (unitLV, H.setO m (.map (es.1 ++ [⟨kv, vv, es.2⟩]) (Nat.succ es.2)))) (fun _ => some (unitLV, H.setO m (.map (setEnt kv vv es.1) es.2))) r) = some (x, H')) :
    x = unitLV ∧ UnitRun P φ H w (Instr.mapUpdate t u v y) H' := by
  have hkey := keyV_of hk hok hv
  obtain ⟨rr, hφ, rfl⟩ := rel_map hm
  obtain ⟨r', ms, hφ', hheap, hrel⟩ := hs.map h1 h2
  rw [hφ] at hφ'; cases hφ'
  obtain ⟨q, hq, hf⟩ := findKey_sound (w := w) hkey hrel h3
  have hc := checkKey_sound (w := w) false hkey
  have hg := run_getMap (P := P) hheap
  have hso : ∀ x, (setObj rr x).run P w = .ok () { w with heap := w.heap.setIfInBounds rr x } := fun x => run_put hheap
  cases hf with
  | none =>
    cases h4
    refine ⟨rfl, _, ?_, write_obj hs h1 hφ (by rw [hheap]; rfl) (.map (ms := ms.push { key := v, val := y, born := es.2 }) _ ?_)⟩
    · simp [Instr.mapUpdate, run_underlying ht, hg, hc, hq, hso]
    · rw [Array.toList_push]; exact hrel.append (.cons ⟨hv, hy, rfl⟩ .nil)
  | some hj hmj hr hset hdel heq =>
    rename_i e0 m0 j
    cases h4
    obtain ⟨hks, hkr⟩ := key_same (w := w) hkey hr.key heq
    have hmj2 : ms[0 + j]? = some m0 := by rw [← Array.getElem?_toList, Nat.zero_add]; exact hmj
    refine ⟨rfl, _, ?_, write_obj hs h1 hφ (by rw [hheap]; rfl) (.map (ms := ms.modify (0 + j) fun e => { e with key := v, val := y }) _ ?_)⟩
    · simp only [Instr.mapUpdate, Sem.run_bind, run_underlying ht, Result.andThen_ok, hg, hc, hq, hmj2, Option.map_some, Option.getD_some, hks, hso]
    · rw [Nat.zero_add, modify_toList _ hmj, hset]
      exact EntsRel.set (e := ⟨e0.key, vv, e0.born⟩) (m := { m0 with key := v, val := y }) ⟨hkr, hy, hr.born⟩ j hrel
theorem gives_mapEntry (hs : Sim P φ H w) {t kt e : TypeId} {k : KT} {zero kv x : LV} {u v : Value} {m : Pos} {o : LO} {es : List Ent × Nat} {H' : Heap} {r : Option Ent} (ht : P.underlying t = some (.map kt e)) (hk : keyT P kt = some k) (hz : zeroOf P e = some zero)
    (hok : keyOk k kv = true) (hv : Rel φ kv v) (hm : Rel φ (.map m) u) (h1 : H.t.get m = some o) (h2 : o.asMap = some es) (h3 : findEnt kv es.1 = some r)
    (h4 : (@Option.rec Ent (fun _ => MR) (some (.tup [zero, .int .i64 (.ofNat es.2)], H.setO m (.map (es.1 ++ [⟨kv, zero, es.2⟩]) (Nat.succ es.2)))) (fun e => some (.tup [e.val, .int .i64 (.ofNat e.born)], H)) r) = some (x, H')) :
    MemRun P φ H w (Instr.mapEntry t u v) x H' := by
  obtain ⟨iz, z, _, _, hzr, hzrun⟩ := zeroOf_some (φ := φ) (w := w) hz
  have hkey := keyV_of hk hok hv
  obtain ⟨rr, hφ, rfl⟩ := rel_map hm
  obtain ⟨r', ms, hφ', hheap, hrel⟩ := hs.map h1 h2
  rw [hφ] at hφ'; cases hφ'
  obtain ⟨q, hq, hf⟩ := findKey_sound (w := w) hkey hrel h3
  have hc := checkKey_sound (w := w) false hkey
  have hg := run_getMap (P := P) hheap
  have hso : ∀ x, (setObj rr x).run P w = .ok () { w with heap := w.heap.setIfInBounds rr x } := fun x => run_put hheap
  cases hf with
  | none =>
    cases h4
    refine ⟨.tuple #[z, goInt es.2], _, φ, ?_, .tup (.cons hzr (.cons (.int _ _) .nil)), write_obj hs h1 hφ (by rw [hheap]; rfl) (.map (ms := ms.push { key := v, val := z, born := es.2 }) _ ?_)⟩
    · simp [Instr.mapEntry, run_underlying ht, hg, hc, hq, hso, hzrun]
    · rw [Array.toList_push]; exact hrel.append (.cons ⟨hv, hzr, rfl⟩ .nil)
  | some hj hmj hr hset hdel heq =>
    rename_i e0 m0 j
    cases h4
    obtain ⟨hks, hkr⟩ := key_same (w := w) hkey hr.key heq
    have hmj2 : ms[0 + j]? = some m0 := by rw [← Array.getElem?_toList, Nat.zero_add]; exact hmj
    refine ⟨.tuple #[m0.val, goInt m0.born], { w with heap := w.heap.setIfInBounds rr (.map (ms.modify (0 + j) fun e => { e with key := v }) es.2) }, φ, ?_, .tup (.cons hr.val (.cons (by rw [← hr.born]; exact .int _ _) .nil)), ?_⟩
    · simp only [Instr.mapEntry, Sem.run_bind, run_underlying ht, Result.andThen_ok, hg, hc, hq, hmj2, Option.map_some, Option.getD_some, hks, hso, Sem.run_pure]
    · have hst := write_obj (P := P) (o := o) hs h1 hφ (x := .map (ms.modify (0 + j) fun e => { e with key := v }) es.2) (by rw [hheap]; rfl) (by
        rw [asMap_some h2]
        refine .map _ ?_
        rw [Nat.zero_add, modify_toList _ hmj]
        have h5 : es.1 = es.1.set j e0 := by
          apply List.ext_getElem?
          intro i
          rw [List.getElem?_set]
          split
          · rename_i hij; subst hij; rw [if_pos (List.getElem?_eq_some_iff.1 hj).1, hj]
          · rfl
        rw [h5]
        exact EntsRel.set (e := e0) (m := { m0 with key := v }) ⟨hkr, hr.val, hr.born⟩ j hrel)
      exact hst.put_same h1
end
end Go.LX

/- LX, part 21: the law of the operations that write. -/
namespace Go.LX
section
variable {P : Program} {φ : Phi} {H : Heap} {w : World}

theorem stampEnt_sound {s : Nat} {v : LV} {y : Value} (hv : Rel φ v y) : ∀ {es : List Ent} {ms : List MapEntry} {r : List Ent}, EntsRel φ es ms → stampEnt s v es = some r →
    ∃ i m, ms[i]? = some m ∧ ms.findIdx? (fun e => (e.born : Int) == Int.ofNat s) = some i ∧ EntsRel φ r (ms.set i { m with val := y })
  | [], _, r, .nil, h => by cases h
  | e :: es, _, r, .cons hr hrs, h => by
    rename_i m ms
    have h' : ib (Nat.beq e.born s) (some (⟨e.key, v, e.born⟩ :: es)) (ob (stampEnt s v es) fun r => some (e :: r)) = some r := h
    rw [ib_eq] at h'
    split at h'
    · rename_i hb
      have hb := beq_iff.1 hb
      cases h'
      refine ⟨0, m, rfl, ?_, .cons ⟨hr.key, hv, hr.born⟩ hrs⟩
      rw [List.findIdx?_cons, ← hr.born, hb]
      simp
    · rename_i hb
      have hb : e.born ≠ s := fun x => hb (beq_iff.2 x)
      obtain ⟨r', h1, h2⟩ := ob_some.1 h'
      cases h2
      obtain ⟨i, m', h3, h4, h5⟩ := stampEnt_sound hv hrs h1
      refine ⟨i + 1, m', by simpa using h3, ?_, .cons hr h5⟩
      rw [List.findIdx?_cons, h4, ← hr.born]
      have : ((e.born : Int) == Int.ofNat s) = false := by
        rw [beq_eq_false_iff_ne]
        intro e2
        exact hb (Int.ofNat.inj e2)
      rw [this]; rfl
theorem gives_entryStore (hs : Sim P φ H w) {t : TypeId} {sv vv : LV} {u v y : Value} {m : Pos} {o : LO} {es : List Ent × Nat} {s : Nat} {r : List Ent} (hv : Rel φ sv v) (hn : natOf sv = some s) (hy : Rel φ vv y) (hm : Rel φ (.map m) u) (h1 : H.t.get m = some o) (h2 : o.asMap = some es)
    (h3 : stampEnt s vv es.1 = some r) : UnitRun P φ H w (Instr.entryStore t u v y) (H.setO m (.map r es.2)) := by
  obtain ⟨k, rfl⟩ := natOf_rel hn hv
  obtain ⟨rr, hφ, rfl⟩ := rel_map hm
  obtain ⟨r', ms, hφ', hheap, hrel⟩ := hs.map h1 h2
  rw [hφ] at hφ'; cases hφ'
  have hg := run_getMap (P := P) hheap
  have hso : ∀ x, (setObj rr x).run P w = .ok () { w with heap := w.heap.setIfInBounds rr x } := fun x => run_put hheap
  obtain ⟨i, m', h4, h5, h6⟩ := stampEnt_sound hy hrel h3
  have h7 : ms.findIdx? (fun e => (e.born : Int) == Int.ofNat s) = some i := by rw [← h5, ← List.findIdx?_toArray]
  refine ⟨_, ?_, write_obj hs h1 hφ (by rw [hheap]; rfl) (.map (ms := ms.modify i fun e => { e with val := y }) _ ?_)⟩
  · simp only [Instr.entryStore, Sem.run_bind, Sem.run_pure, hg, Result.andThen_ok, asInt, asIntOf, h7, hso]
  · rw [modify_toList _ h4]; exact h6
theorem findEnt_none_del {x : LV} : ∀ {es : List Ent}, findEnt x es = some none → delEnt x es = es
  | [], _ => rfl
  | e :: es, h => by
    have h' : (ob (eqKey x e.key) fun b => ib b (some (some e)) (findEnt x es)) = some none := h
    obtain ⟨b, hb, hr⟩ := ob_some.1 h'
    cases b with
    | true => cases hr
    | false => simp [delEnt, hb, ib, findEnt_none_del hr]
theorem gives_delete (hs : Sim P φ H w) {t kt e ty : TypeId} {k : KT} {kv x : LV} {u v : Value} {ml : LV} {H' : Heap} (ht : P.underlying t = some (.map kt e)) (hk : keyT P kt = some k)
    (hok : keyOk k kv = true) (hv : Rel φ kv v) (hm : Rel φ ml u) (h : delLV ml H kv = some (x, H')) (ts : List TypeId) : MemRun P φ H w (Builtin.delete_ (t :: ts).toArray ty #[u, v]) x H' := by
  have hkey := keyV_of hk hok hv
  cases hm with
  | nilmap =>
    have h' : some (unitLV, H) = some (x, H') := h
    cases h'
    have hc := checkKey_sound (w := w) true hkey
    refine ⟨.tuple #[], w, φ, ?_, .tup .nil, .refl hs⟩
    simp [Builtin.delete_, run_underlying ht, hc]
  | map hφ =>
    rename_i m rr
    have h' : (om (H.t.get m) fun o => om o.asMap fun es => om (findEnt kv es.1) fun _ => some (unitLV, H.setO m (.map (delEnt kv es.1) es.2))) = some (x, H') := h
    simp only [om_some] at h'
    obtain ⟨o, h1, es, h2, r, h3, h4⟩ := h'
    cases h4
    obtain ⟨r', ms, hφ', hheap, hrel⟩ := hs.map h1 h2
    rw [hφ] at hφ'; cases hφ'
    obtain ⟨q, hq, hf⟩ := findKey_sound (w := w) hkey hrel h3
    have hc := checkKey_sound (w := w) ms.isEmpty hkey
    have hg := run_getMap (P := P) hheap
    have hso : ∀ x, (setObj rr x).run P w = .ok () { w with heap := w.heap.setIfInBounds rr x } := fun x => run_put hheap
    cases hf with
    | none =>
      refine ⟨.tuple #[], _, φ, ?_, .tup .nil, write_obj hs h1 hφ (by rw [hheap]; rfl) (.map (ms := ms) _ ?_)⟩
      · simp [Builtin.delete_, run_underlying ht, hg, hc, hq, hso]
      · rw [findEnt_none_del h3]; exact hrel
    | some hj hmj hr hset hdel heq =>
      rename_i e0 m0 j
      refine ⟨.tuple #[], _, φ, ?_, .tup .nil, write_obj hs h1 hφ (by rw [hheap]; rfl) (.map (ms := ms.eraseIdxIfInBounds (0 + j)) _ ?_)⟩
      · simp [Builtin.delete_, run_underlying ht, hg, hc, hq, hso]
      · rw [Nat.zero_add, hdel]
        have hlt : j < ms.size := by have := (List.getElem?_eq_some_iff.1 hmj).1; simpa using this
        have : (ms.eraseIdxIfInBounds j).toList = ms.toList.eraseIdx j := by
          unfold Array.eraseIdxIfInBounds
          rw [dif_pos hlt, Array.toList_eraseIdx]
        rw [this]
        exact hrel.eraseIdx j
  | _ => cases h
theorem gives_range (hs : Sim P φ H w) {t kt e : TypeId} {ml x : LV} {u : Value} {H' : Heap} (ht : P.underlying t = some (.map kt e)) (hm : Rel φ ml u) (h : rangeLV ml H = some (x, H')) : MemRun P φ H w (Instr.range t u) x H' := by
  cases hm with
  | nilmap =>
    have h' : some (LV.itr H.next, H.new (.iter none 0 [] 0)) = some (x, H') := h
    cases h'
    refine ⟨.pointer (some ⟨w.heap.size, 0, none⟩), w.alloc (.mapIter none 0 #[] 0), _, ?_, .itr (Phi.set_same _ _ _), new_obj hs (plain_alloc w _) rfl (.iterN ..)⟩
    simp [Instr.range, run_underlying ht]
  | map hφ =>
    rename_i m rr
    have h' : (om (H.t.get m) fun o => om o.asMap fun es => some (LV.itr H.next, H.new (.iter (some m) es.2 [] es.2))) = some (x, H') := h
    simp only [om_some] at h'
    obtain ⟨o, h1, es, h2, h4⟩ := h'
    cases h4
    obtain ⟨r', ms, hφ', hheap, hrel⟩ := hs.map h1 h2
    rw [hφ] at hφ'; cases hφ'
    have hg := run_getMap (P := P) hheap
    refine ⟨.pointer (some ⟨w.heap.size, 0, none⟩), w.alloc (.mapIter (some rr) es.2 #[] es.2), _, ?_, .itr (Phi.set_same _ _ _), new_obj hs (plain_alloc w _) rfl (.iter _ _ _ _ hφ rfl)⟩
    simp [Instr.range, run_underlying ht, hg]
  | _ => cases h
theorem gives_mkMap (hs : Sim P φ H w) (t : TypeId) : MemRun P φ H w (Instr.makeMap t none) (.map H.next) (H.new (.map [] 0)) := by
  refine ⟨.map (some w.heap.size), w.alloc (.map #[] 0), _, ?_, .map (Phi.set_same _ _ _), new_obj hs (plain_alloc w _) rfl (.map _ .nil)⟩
  simp [Instr.makeMap]
theorem gives_buildSlice (hs : Sim P φ H w) {nt : Nat} {T : Trie LV} {ρ : Operand → Value} {t e : TypeId} {z : LV} {sz n : Nat} {ps : Array (Nat × Operand)} {lps : List (Nat × Nat × LOpd)} {cs : List LV} (ht : P.underlying t = some (.slice e)) (hsz : szOf P e = some sz) (hz : zeroOf P e = some z)
    (hlen : (cellsOf z).length = sz) (hn : n * sz ≤ 16384) (hn2 : n ≤ 16384) (hps : partsOf nt (fun i => some (i * sz, sz)) ps.toList = some lps) (hop : OpdOk φ nt T ρ (ps.toList.map (·.2))) (hcs : fillParts T (rep n (cellsOf z)) lps = some cs) (hone : allOne cs = true) :
    MemRun P φ H w (Instr.buildSlice t n (ps.map fun (i, x) => (i, ρ x))) (.slice H.next 0 n sz (Nat.succ n)) (H.new (.cells (mkRow .lf 0 cs))) := by
  obtain ⟨iz, zv, hi, hzv, hzr, hzrun⟩ := zeroOf_some (φ := φ) (w := w) hz
  have hcr := cellsOf_sound hzr
  have hzs : zv.cells.size = sz := by rw [← Array.length_toList, hcr.length, hlen]
  have hmem : ∀ p ∈ ps.toList, p.2 ∈ ps.toList.map (·.2) := fun p hp => List.mem_map_of_mem hp
  have hrel := zeros_rel hcr n
  rw [hlen] at hrel
  obtain ⟨r, hr1, hr2⟩ := fill_sound hop hmem hps hcs hrel
  have hcsl : r.size = n * sz := by
    have : ∀ (place : Nat → Option (Nat × Nat)) (l : List (Nat × Value)) (cells r : Array Value), Instr.fill place cells l = some r → r.size = cells.size := by
      intro place l
      induction l with
      | nil => intro cells r h; simp only [Instr.fill, Option.some.injEq] at h; rw [h]
      | cons p l ih =>
        intro cells r h
        obtain ⟨i, v⟩ := p
        simp only [Instr.fill] at h
        split at h
        · cases h
        · split at h
          · cases h
          · rw [ih _ _ h, ← Array.foldl_toList]
            have : ∀ (l : List (Value × Nat)) (cs : Array Value) (off : Nat), (l.foldl (fun cs (x : Value × Nat) => cs.setIfInBounds (off + x.2) x.1) cs).size = cs.size := by
              intro l
              induction l with
              | nil => intro cs off; rfl
              | cons a l ih => intro cs off; rw [List.foldl_cons, ih]; simp
            exact this _ _ _
    have := this _ _ _ _ hr1
    rw [this]; simp
  have hb : ¬ (n * sz > 2 ^ 24) := by omega
  have hrun : (Instr.buildSlice t n (ps.map fun (i, x) => (i, ρ x))).run P w = .ok (.slice (some ⟨w.heap.size, 0, none⟩) n n) (w.alloc (.cells r e)) := by
    have hr1' : Instr.fill (fun i => some (i * sz, sz)) ((Array.range (n * sz)).map fun i => zv.cells[i % zv.cells.size]!) (ps.map fun (i, x) => (i, ρ x)).toList = some r := by
      rw [Array.toList_map]; exact hr1
    by_cases h0 : n * sz = 0
    · have e1 : ((Array.range (n * sz)).map fun i => (#[] : Array Value)[i % (#[] : Array Value).size]!) = (Array.range (n * sz)).map fun i => zv.cells[i % zv.cells.size]! := by
        rw [h0]; simp
      simp only [Instr.buildSlice, Sem.run_bind, run_underlying ht, Result.andThen_ok, szOf_some hsz, if_neg hb, if_pos h0, Sem.run_pure]
      rw [e1, hr1']
      simp [newRow]
    · simp only [Instr.buildSlice, Sem.run_bind, run_underlying ht, Result.andThen_ok, szOf_some hsz, if_neg hb, if_neg h0, Sem.run_pure, hzrun, hr1']
      simp [newRow]
  refine ⟨_, _, φ.set H.next (.blk w.heap.size 0 (n * sz)), hrun, ?_, ?_⟩
  · exact .slice _ _ _ _ n _ (Phi.set_same _ _ _) (Nat.le_refl _) (Nat.le_trans hn2 (by decide)) (by simp) (.inr rfl) (.inr rfl)
  · exact new_row (e := e) (fr := (0, 0)) (cur := r) hs (fun _ _ h => h) (plain_alloc w _) rfl (by omega) (.inr (Nat.le_refl _)) hr2 (allOne_rel hone hr2) (fun j v hj => by rwa [Array.getElem?_toList] at hj) (by simp [hcsl])
end
end Go.LX

/- LX, part 22: the law of the operations that write. -/
namespace Go.LX
section
variable {P : Program} {φ : Phi} {H : Heap} {w : World} {nt : Nat} {T : Trie LV} {ρ : Operand → Value} {o : Oper} {mo : MOp} {x : LV} {H' : Heap}

/-- what is asked of an operation that writes -/
def MemOk (P : Program) (φ : Phi) (H : Heap) (w : World) (ρ : Operand → Value) (o : Oper) (x : LV) (H' : Heap) : Prop :=
  ∃ nx v w' φ', (execOp ρ o).run P w = .ok nx w' ∧ (nx = .value v ∨ (nx = .skip ∧ v = undef)) ∧ Rel φ' x v ∧ Stp P φ H w φ' H' w'
theorem MemOk.value {s : Sem Value} (h : MemRun P φ H w s x H') (he : execOp ρ o = do pure (.value (← s))) : MemOk P φ H w ρ o x H' := by
  obtain ⟨v, w', φ', h1, h2, h3⟩ := h
  exact ⟨_, v, w', φ', by rw [he]; simp [h1], .inl rfl, h2, h3⟩
theorem MemOk.unit {s : Sem Unit} (h : UnitRun P φ H w s H') (he : execOp ρ o = do s; pure .skip) : MemOk P φ H w ρ o unitLV H' := by
  obtain ⟨w', h1, h3⟩ := h
  exact ⟨_, undef, w', φ, by rw [he]; simp [h1], .inr ⟨rfl, rfl⟩, .tup .nil, h3⟩
theorem np1 {f : LOpd → POp} {x : Operand} (h : p1 nt f x = some (.m mo)) : False := by obtain ⟨_, _, e⟩ := p1_some h; cases e
theorem np2 {f : LOpd → LOpd → POp} {x y : Operand} (h : p2 nt f x y = some (.m mo)) : False := by obtain ⟨_, _, _, _, e⟩ := p2_some h; cases e
theorem np0 {α : Type} {f : α → POp} {x : Option α} (h : (x.map fun a => LOp.p (f a)) = some (.m mo)) : False := by
  simp only [Option.map_eq_some_iff] at h; obtain ⟨_, _, e⟩ := h; cases e
theorem nc0 {α : Type} {f : α → COp} {x : Option α} (h : (x.map fun a => LOp.c (f a)) = some (.m mo)) : False := by
  simp only [Option.map_eq_some_iff] at h; obtain ⟨_, _, e⟩ := h; cases e
theorem mone {a : Operand} {f : LOpd → MOp} (hc : m1 nt f a = some (.m mo)) (hop : OpdOk φ nt T ρ [a]) : ∃ la, mo = f la ∧ ∀ u, getO la T = some u → Rel φ u (ρ a) := by
  obtain ⟨la, h1, e⟩ := m1_some hc
  cases e
  exact ⟨la, rfl, fun u hu => hop.one (by simp) h1 hu⟩
theorem mtwo {a b : Operand} {f : LOpd → LOpd → MOp} (hc : m2 nt f a b = some (.m mo)) (hop : OpdOk φ nt T ρ [a, b]) : ∃ la lb, mo = f la lb ∧ (∀ u, getO la T = some u → Rel φ u (ρ a)) ∧ (∀ u, getO lb T = some u → Rel φ u (ρ b)) := by
  obtain ⟨la, lb, h1, h2, e⟩ := m2_some hc
  cases e
  exact ⟨la, lb, rfl, fun u hu => hop.one (by simp) h1 hu, fun u hu => hop.one (by simp) h2 hu⟩
theorem mthree {a b c : Operand} {f : LOpd → LOpd → LOpd → MOp} (hc : m3 nt f a b c = some (.m mo)) (hop : OpdOk φ nt T ρ [a, b, c]) : ∃ la lb lc, mo = f la lb lc ∧ (∀ u, getO la T = some u → Rel φ u (ρ a)) ∧ (∀ u, getO lb T = some u → Rel φ u (ρ b)) ∧ (∀ u, getO lc T = some u → Rel φ u (ρ c)) := by
  obtain ⟨la, lb, lc, h1, h2, h3, e⟩ := m3_some hc
  cases e
  exact ⟨la, lb, lc, rfl, fun u hu => hop.one (by simp) h1 hu, fun u hu => hop.one (by simp) h2 hu, fun u hu => hop.one (by simp) h3 hu⟩
theorem hb_some {y : Option Heap} (h : hb y = some (x, H')) : x = unitLV ∧ y = some H' := by
  cases y with
  | none => cases h
  | some z => have h' : some (unitLV, z) = some (x, H') := h; cases h'; exact ⟨rfl, rfl⟩
theorem compBuild_p {t : TypeId} {ps : List (Nat × Operand)} (h : compBuild P nt t ps = some (.m mo)) : False := by
  unfold compBuild at h
  split at h
  · split at h
    · exact np0 h
    · cases h
  · split at h
    · exact np0 h
    · cases h
  · cases h
theorem compBin_p {op : BinOp} {t : TypeId} {a b : Operand} (h : compBin P nt op t a b = some (.m mo)) : False := by
  unfold compBin at h
  split at h <;> first | exact np2 h | (cases h; done) | (split at h <;> first | exact np2 h | (cases h; done))
theorem compSlice_p {t : TypeId} {a : Operand} {lo hi : Option Operand} (h : compSlice P nt t a lo hi = some (.m mo)) : False := by
  unfold compSlice at h
  split at h <;> first | exact np0 h | (cases h; done) | (split at h <;> first | exact np0 h | (cases h; done))

theorem ib_nf {α : Type} {b : Bool} {y : Option α} {z : α} (h : ib (bnot b) none y = some z) : b = true ∧ y = some z := by
  cases b with
  | false => cases h
  | true => exact ⟨rfl, h⟩
theorem aggOrOne_one {t : TypeId} {n : Nat} (h : aggOrOne P t = some (false, n)) : n = 1 ∧ True := by
  unfold aggOrOne at h
  split at h
  · split at h
    · cases h
    · split at h
      · cases h; exact ⟨rfl, trivial⟩
      · cases h
  · cases h
theorem isU8_some {d : Option TypeDesc} (h : isU8 d = true) : d = some (.int .u8) := by
  unfold isU8 at h; split at h <;> first | rfl | cases h
theorem ms_call {c : Call} {b : Builtin} (ho : o.op = .call c) (hb : c.callee = .builtin b) (hc : compBuiltin P nt b c.args.toList c.argTypes.toList = some (.m mo)) (hop : OpdOk φ nt T ρ c.args.toList) (hs : Sim P φ H w) (h : memOp mo T H = some (x, H')) : MemOk P φ H w ρ o x H' := by
  have hex : execOp ρ o = builtin b c.argTypes o.type (c.args.map fun | .const _ => true | _ => false) (c.args.map ρ) := by
    unfold execOp
    simp only [ho, resolve, hb]
    rfl
  obtain ⟨args, hargs⟩ : ∃ args, c.args.toList = args := ⟨_, rfl⟩
  obtain ⟨ts, hts⟩ : ∃ ts, c.argTypes.toList = ts := ⟨_, rfl⟩
  have e1 : c.args = args.toArray := by rw [← hargs]
  have e2 : c.argTypes = ts.toArray := by rw [← hts]
  rw [hargs, hts] at hc
  rw [hargs] at hop
  rw [e1, e2] at hex
  unfold compBuiltin at hc
  split at hc
  · split at hc <;> first | exact (np1 hc).elim | (cases hc; done) | (split at hc <;> first | exact (np1 hc).elim | (cases hc; done))
  · -- append
    rename_i s a t u
    split at hc
    · rename_i e ht
      split at hc
      · rename_i e' i hu hi
        split at hc
        · rename_i hcond
          obtain ⟨rfl, hpos, hzs, hzc, hby⟩ := hcond
          obtain ⟨z, hz⟩ := Option.isSome_iff_exists.1 hzs
          rw [hz] at hzc
          obtain ⟨la, lb, rfl, ha, hb'⟩ := mtwo hc hop
          have h' : (om (getO la T) fun sv => om (getO lb T) fun xv => om (slCells xv H i.size) fun c => appendTo sv H i.size c.1 c.2) = some (x, H') := h
          simp only [om_some] at h'
          obtain ⟨sv, hsv, xv, hxv, cc, hcc, h2⟩ := h'
          obtain ⟨xs, hsrc, hr, hone⟩ := slCells_src hs hu (hb' _ hxv) hcc
          refine MemOk.value (gives_append (t := t) (u := t) (ty := o.type) hs ht hi hz (by simpa using hzc) hpos hby hsrc hr hone (ha _ hsv) h2) ?_
          rw [hex]; simp only [builtin, List.map_toArray, List.map_cons, List.map_nil]
        · cases hc
      · rename_i i hu hi
        split at hc
        · rename_i hcond
          simp only [Bool.and_eq_true, decide_eq_true_eq] at hcond
          obtain ⟨⟨⟨hu8, hsz⟩, hbytes⟩, hzc⟩ := hcond
          simp only [Option.map_eq_some_iff] at hzc
          obtain ⟨z, hz, hzc⟩ := hzc
          obtain ⟨la, lb, rfl, ha, hb'⟩ := mtwo hc hop
          have h' : (om (getO la T) fun sv => om (getO lb T) fun xv => om (strCells xv) fun c => appendTo sv H 1 c.1 c.2) = some (x, H') := h
          simp only [om_some] at h'
          obtain ⟨sv, hsv, xv, hxv, cc, hcc, h2⟩ := h'
          obtain ⟨xs, hsrc, hr, hone⟩ := strCells_src (w := w) hu (hb' _ hxv) hcc
          rw [← hsz] at hsrc h2
          refine MemOk.value (gives_append (t := t) (u := u) (ty := o.type) hs ht hi hz (by rw [hzc, hsz]) (by omega) (by omega) hsrc hr hone (ha _ hsv) h2) ?_
          rw [hex]; simp only [builtin, List.map_toArray, List.map_cons, List.map_nil]
        · cases hc
      · cases hc
    · cases hc
  · -- copy
    rename_i d s t u
    split at hc
    · rename_i e ht
      split at hc
      · rename_i e' sz hu hsz
        split at hc
        · rename_i hpos
          obtain ⟨la, lb, rfl, ha, hb'⟩ := mtwo hc hop
          have h' : (om (getO la T) fun sv => om (getO lb T) fun xv => om (slCells xv H sz) fun c => copyTo sv H sz c.1 c.2) = some (x, H') := h
          simp only [om_some] at h'
          obtain ⟨sv, hsv, xv, hxv, cc, hcc, h2⟩ := h'
          obtain ⟨xs, hsrc, hr, hone⟩ := slCells_src hs hu (hb' _ hxv) hcc
          refine MemOk.value (gives_copy (t := t) (u := u) (ty := o.type) hs ht hsz hsrc hr hone (ha _ hsv) h2) ?_
          rw [hex]; simp only [builtin, List.map_toArray, List.map_cons, List.map_nil]
        · cases hc
      · rename_i sz hu hsz
        split at hc
        · rename_i h1
          subst h1
          obtain ⟨la, lb, rfl, ha, hb'⟩ := mtwo hc hop
          have h' : (om (getO la T) fun sv => om (getO lb T) fun xv => om (strCells xv) fun c => copyTo sv H 1 c.1 c.2) = some (x, H') := h
          simp only [om_some] at h'
          obtain ⟨sv, hsv, xv, hxv, cc, hcc, h2⟩ := h'
          obtain ⟨xs, hsrc, hr, hone⟩ := strCells_src hu (hb' _ hxv) hcc
          refine MemOk.value (gives_copy (t := t) (u := u) (ty := o.type) hs ht hsz hsrc hr hone (ha _ hsv) h2) ?_
          rw [hex]; simp only [builtin, List.map_toArray, List.map_cons, List.map_nil]
        · cases hc
      · cases hc
    · cases hc
  · exact (np0 (f := fun xs => POp.minmax true xs) hc).elim
  · exact (np0 (f := fun xs => POp.minmax false xs) hc).elim
  · -- delete
    rename_i m k t
    split at hc
    · rename_i kt e ht
      split at hc
      · rename_i k' hk
        obtain ⟨la, lb, rfl, ha, hb'⟩ := mtwo hc hop
        have h' : (om (getO la T) fun m => om (getO lb T) fun k => ib (keyOk k' k) (delLV m H k) none) = some (x, H') := h
        simp only [om_some] at h'
        obtain ⟨mv, hmv, kv, hkv, h2⟩ := h'
        rw [ib_some] at h2
        refine MemOk.value (gives_delete (ty := o.type) hs ht hk h2.1 (hb' _ hkv) (ha _ hmv) h2.2 []) ?_
        rw [hex]; simp only [builtin, List.map_toArray, List.map_cons, List.map_nil]
      · cases hc
    · cases hc
  · rename_i m k t t'
    split at hc
    · rename_i kt e ht
      split at hc
      · rename_i k' hk
        obtain ⟨la, lb, rfl, ha, hb'⟩ := mtwo hc hop
        have h' : (om (getO la T) fun m => om (getO lb T) fun k => ib (keyOk k' k) (delLV m H k) none) = some (x, H') := h
        simp only [om_some] at h'
        obtain ⟨mv, hmv, kv, hkv, h2⟩ := h'
        rw [ib_some] at h2
        refine MemOk.value (gives_delete (ty := o.type) hs ht hk h2.1 (hb' _ hkv) (ha _ hmv) h2.2 [t']) ?_
        rw [hex]; simp only [builtin, List.map_toArray, List.map_cons, List.map_nil]
      · cases hc
    · cases hc
  · cases hc
  · cases hc

set_option maxHeartbeats 1000000 in
theorem mem_sound (hc : compOp P nt o = some (.m mo)) (hop : OpdOk φ nt T ρ o.op.operands.toList) (hs : Sim P φ H w) (h : memOp mo T H = some (x, H')) : MemOk P φ H w ρ o x H' := by
  unfold compOp at hc
  split at hc <;> first | (cases hc; done) | exact (np1 hc).elim | exact (np2 hc).elim | exact (compBuild_p hc).elim | exact (compBin_p hc).elim | exact (compSlice_p hc).elim | exact (nc0 hc).elim | skip
  all_goals (rename_i ho; rw [ho] at hop; simp only [Op.operands] at hop)
  · repeat' (first | (cases hc; done) | exact (np1 hc).elim | exact (np2 hc).elim | exact (np0 hc).elim | exact (nc0 hc).elim | split at hc)
  · -- alloc
    simp only [Option.map_eq_some_iff] at hc
    obtain ⟨z, hz, e⟩ := hc
    cases e
    have h' : mNew H (cellsOf z) = some (x, H') := h
    obtain ⟨iz, zv, hi, hzv, hzr, hzrun⟩ := zeroOf_some (φ := φ) (w := w) hz
    rename_i et
    obtain ⟨w', φ', h1, h2, h3⟩ := gives_newVar hs (cellsOf_sound hzr) h' et
    refine MemOk.value (s := Instr.alloc et true (.tuple #[])) ⟨_, w', φ', ?_, h2, h3⟩ (by unfold execOp; simp only [ho])
    simp [Instr.alloc, hzrun, h1]
  · -- box
    rename_i et a
    obtain ⟨la, rfl, ha⟩ := mone hc hop
    have h' : (om (getO la T) fun v => mNew H (cellsOf v)) = some (x, H') := h
    simp only [om_some] at h'
    obtain ⟨v, hv, h2⟩ := h'
    obtain ⟨w', φ', h1, h3, h4⟩ := gives_newVar hs (cellsOf_sound (ha _ hv)) h2 et
    refine MemOk.value (s := Instr.box et (ρ a)) ⟨_, w', φ', ?_, h3, h4⟩ (by unfold execOp; simp only [ho])
    simp [Instr.box, h1]
  · -- buildSlice
    rename_i t n ps
    split at hc
    · rename_i e ht
      split at hc
      · rename_i sz z hsz hz
        split at hc
        · rename_i hcond
          simp only [Option.map_eq_some_iff] at hc
          obtain ⟨lps, hlps, e'⟩ := hc
          cases e'
          have h' : (om (fillParts T (rep n (cellsOf z)) lps) fun cs => ib (allOne cs) (some (LV.slice H.next 0 n sz (Nat.succ n), H.new (.cells (mkRow .lf 0 cs)))) none) = some (x, H') := h
          simp only [om_some] at h'
          obtain ⟨cs, hcs, h2⟩ := h'
          rw [ib_some] at h2
          obtain ⟨hone, h2⟩ := h2
          cases h2
          exact MemOk.value (gives_buildSlice hs ht hsz hz hcond.1 hcond.2.1 hcond.2.2 hlps (by simpa using hop) hcs hone) (by unfold execOp; simp only [ho])
        · cases hc
      · cases hc
    · cases hc
  · -- insert
    rename_i t m k v
    split at hc
    · rename_i kt e ht
      split at hc
      · rename_i k' hk
        obtain ⟨la, lb, lc, rfl, ha, hb, hcc⟩ := mthree hc hop
        have h' : (om (getO la T) fun m => om (mapOf m) fun m => om (getO lb T) fun kv => ib (bnot (keyOk k' kv)) none <| om (getO lc T) fun vv => om (H.t.get m) fun o => om o.asMap fun es =>
          om (findEnt kv es.1) fun r => @Option.rec Ent (fun _ => MR) (some (unitLV, H.setO m (.map (es.1 ++ [⟨kv, vv, es.2⟩]) (Nat.succ es.2)))) (fun _ => some (unitLV, H.setO m (.map (setEnt kv vv es.1) es.2))) r) = some (x, H') := h
        simp only [om_some] at h'
        obtain ⟨ml, hml, mp, hmp, kv, hkv, h2⟩ := h'
        obtain ⟨hok, h2⟩ := ib_nf h2
        simp only [om_some] at h2
        obtain ⟨vv, hvv, ob', h3, es, h4, r, h5, h6⟩ := h2
        have hmr := ha _ hml
        rw [mapOf_some hmp] at hmr
        obtain ⟨rfl, h7⟩ := gives_mapUpdate hs ht hk hok (hb _ hkv) (hcc _ hvv) hmr h3 h4 h5 h6
        exact MemOk.unit h7 (by unfold execOp; simp only [ho])
      · cases hc
    · cases hc
  · -- mapUpdate
    rename_i t m k v
    split at hc
    · rename_i kt e ht
      split at hc
      · rename_i k' hk
        obtain ⟨la, lb, lc, rfl, ha, hb, hcc⟩ := mthree hc hop
        have h' : (om (getO la T) fun m => om (mapOf m) fun m => om (getO lb T) fun kv => ib (bnot (keyOk k' kv)) none <| om (getO lc T) fun vv => om (H.t.get m) fun o => om o.asMap fun es =>
          om (findEnt kv es.1) fun r => @Option.rec Ent (fun _ => MR) (some (unitLV, H.setO m (.map (es.1 ++ [⟨kv, vv, es.2⟩]) (Nat.succ es.2)))) (fun _ => some (unitLV, H.setO m (.map (setEnt kv vv es.1) es.2))) r) = some (x, H') := h
        simp only [om_some] at h'
        obtain ⟨ml, hml, mp, hmp, kv, hkv, h2⟩ := h'
        obtain ⟨hok, h2⟩ := ib_nf h2
        simp only [om_some] at h2
        obtain ⟨vv, hvv, ob', h3, es, h4, r, h5, h6⟩ := h2
        have hmr := ha _ hml
        rw [mapOf_some hmp] at hmr
        obtain ⟨rfl, h7⟩ := gives_mapUpdate hs ht hk hok (hb _ hkv) (hcc _ hvv) hmr h3 h4 h5 h6
        exact MemOk.unit h7 (by unfold execOp; simp only [ho])
      · cases hc
    · cases hc
  · repeat' (first | (cases hc; done) | exact (np1 hc).elim | exact (np2 hc).elim | exact (np0 hc).elim | exact (nc0 hc).elim | split at hc)
  · -- store
    rename_i t a v
    split at hc
    · rename_i n ht
      obtain ⟨la, lb, rfl, ha, hb2⟩ := mtwo hc hop
      have h' : (om (getO la T) fun p => om (getO lb T) fun v => om (aggOf v) fun cs => ib (allOne cs) (ib (Nat.beq cs.length n) (hb (storeRow p H cs)) none) none) = some (x, H') := h
      simp only [om_some] at h'
      obtain ⟨p, hp, y, hy, cs, hcs, h2⟩ := h'
      rw [ib_some, ib_some] at h2
      obtain ⟨h3, h4, h5⟩ := h2
      obtain ⟨rfl, h6⟩ := hb_some h5
      have hyr := hb2 _ hy
      rw [aggOf_some hcs] at hyr
      obtain ⟨w', h7, h8⟩ := gives_store hs ht (ha _ hp) (cs := cs) (cellsOf_sound hyr) h3 (beq_iff.1 h4) h6
      exact MemOk.unit ⟨w', h7, h8⟩ (by unfold execOp; simp only [ho])
    · rename_i n ht
      obtain ⟨la, lb, rfl, ha, hb2⟩ := mtwo hc hop
      have h' : (om (getO la T) fun p => om (getO lb T) fun v => ib (isOne v) (hb (storeRow p H [v])) none) = some (x, H') := h
      simp only [om_some] at h'
      obtain ⟨p, hp, y, hy, h2⟩ := h'
      rw [ib_some] at h2
      obtain ⟨h3, h5⟩ := h2
      obtain ⟨rfl, h6⟩ := hb_some h5
      have hyr := hb2 _ hy
      have hcells : cellsOf y = [y] := by cases y <;> first | rfl | cases h3
      have h1n : n = 1 := (aggOrOne_one ht).1
      obtain ⟨w', h7, h8⟩ := gives_store hs ht (ha _ hp) (cs := [y]) (by have := cellsOf_sound hyr; rwa [hcells] at this) (by simp [allOne, h3, ib]) (by simp [h1n]) h6
      exact MemOk.unit ⟨w', h7, h8⟩ (by unfold execOp; simp only [ho])
    · cases hc
  · -- convert
    rename_i s d a
    split at hc <;> first | exact (np1 hc).elim | (cases hc; done) | skip
    · split at hc <;> first | exact (np1 hc).elim | (cases hc; done)
    · rename_i e h1 h2
      split at hc
      · rename_i hu8
        obtain ⟨la, rfl, ha⟩ := mone hc hop
        have h' : (om (getO la T) fun xv => om (strCells xv) fun c => appFresh H 1 c.1 H.t (mkRow .lf 0 c.2)) = some (x, H') := h
        simp only [om_some] at h'
        obtain ⟨v, hv, c, hcc, h3⟩ := h'
        exact MemOk.value (gives_strToBytes hs h1 h2 (isU8_some hu8) (ha _ hv) hcc h3) (by unfold execOp; simp only [ho])
      · cases hc
  · repeat' (first | (cases hc; done) | exact (np1 hc).elim | exact (np2 hc).elim | exact (np0 hc).elim | exact (nc0 hc).elim | split at hc)
  · repeat' (first | (cases hc; done) | exact (np1 hc).elim | exact (np2 hc).elim | exact (np0 hc).elim | exact (nc0 hc).elim | split at hc)
  · -- makeMap
    cases hc
    have h' : some (LV.map H.next, H.new (.map [] 0)) = some (x, H') := h
    cases h'
    exact MemOk.value (gives_mkMap hs _) (by unfold execOp; simp only [ho]; rfl)
  · -- makeSlice
    rename_i t l c
    split at hc
    · rename_i e ht
      split at hc
      · rename_i i z hi hz
        split at hc
        · rename_i hcond
          obtain ⟨la, lb, rfl, ha, hb⟩ := mtwo hc hop
          have h' : (om (getO la T) fun l => om (natOf l) fun l => om (getO lb T) fun c => om (natOf c) fun c =>
            ib (Nat.ble l c) (ib (Nat.ble (Nat.mul c 64) maxCells) (some (LV.slice H.next 0 l i.size (Nat.succ c), H.new (.cells (mkRow .lf 0 (rep c (cellsOf z)))))) none) none) = some (x, H') := h
          simp only [om_some] at h'
          obtain ⟨lv, hlv, ln, hln, cv, hcv, cn, hcn, h2⟩ := h'
          rw [ib_some, ib_some] at h2
          obtain ⟨h3, h4, h5⟩ := h2
          cases h5
          obtain ⟨k, ek⟩ := natOf_rel hln (ha _ hlv)
          obtain ⟨k', ek'⟩ := natOf_rel hcn (hb _ hcv)
          have h4 : cn * 64 ≤ 1048576 := ble_iff.1 h4
          have := gives_mkSlice hs ht hi hz hcond.1 hcond.2.1 hcond.2.2.1 hcond.2.2.2 (k := k) (k' := k') (ble_iff.1 h3) (by omega)
          rw [← ek, ← ek'] at this
          exact MemOk.value this (by unfold execOp; simp only [ho])
        · cases hc
      · cases hc
    · cases hc
  · repeat' (first | (cases hc; done) | exact (np1 hc).elim | exact (np2 hc).elim | exact (np0 hc).elim | exact (nc0 hc).elim | split at hc)
  · repeat' (first | (cases hc; done) | exact (np1 hc).elim | exact (np2 hc).elim | exact (np0 hc).elim | exact (nc0 hc).elim | split at hc)
  · repeat' (first | (cases hc; done) | exact (np1 hc).elim | exact (np2 hc).elim | exact (np0 hc).elim | exact (nc0 hc).elim | split at hc)
  · repeat' (first | (cases hc; done) | exact (np1 hc).elim | exact (np2 hc).elim | exact (np0 hc).elim | exact (nc0 hc).elim | split at hc)
  · repeat' (first | (cases hc; done) | exact (np1 hc).elim | exact (np2 hc).elim | exact (np0 hc).elim | exact (nc0 hc).elim | split at hc)
  · -- mapEntry
    rename_i t m k
    split at hc
    · rename_i kt e ht
      split at hc
      · rename_i z hz
        split at hc
        · rename_i k' hk
          obtain ⟨la, lb, rfl, ha, hb⟩ := mtwo hc hop
          have h' : (om (getO la T) fun m => om (mapOf m) fun m => om (getO lb T) fun kv => ib (bnot (keyOk k' kv)) none <| om (H.t.get m) fun o => om o.asMap fun es =>
            om (findEnt kv es.1) fun r => @Option.rec Ent (fun _ => MR) (some (.tup [z, .int .i64 (.ofNat es.2)], H.setO m (.map (es.1 ++ [⟨kv, z, es.2⟩]) (Nat.succ es.2)))) (fun e => some (.tup [e.val, .int .i64 (.ofNat e.born)], H)) r) = some (x, H') := h
          simp only [om_some] at h'
          obtain ⟨ml, hml, mp, hmp, kv, hkv, h2⟩ := h'
          obtain ⟨hok, h2⟩ := ib_nf h2
          simp only [om_some] at h2
          obtain ⟨ob', h3, es, h4, r, h5, h6⟩ := h2
          have hmr := ha _ hml
          rw [mapOf_some hmp] at hmr
          exact MemOk.value (gives_mapEntry hs ht hk hz hok (hb _ hkv) hmr h3 h4 h5 h6) (by unfold execOp; simp only [ho])
        · cases hc
      · cases hc
    · cases hc
  · -- entryStore
    rename_i et m k v
    obtain ⟨la, lb, lc, rfl, ha, hb, hcc⟩ := mthree hc hop
    have h' : (om (getO la T) fun m => om (mapOf m) fun m => om (getO lb T) fun s => om (natOf s) fun s => om (getO lc T) fun vv => om (H.t.get m) fun o => om o.asMap fun es =>
      om (stampEnt s vv es.1) fun r => some (unitLV, H.setO m (.map r es.2))) = some (x, H') := h
    simp only [om_some] at h'
    obtain ⟨ml, hml, mp, hmp, sv, hsv, s, hs', vv, hvv, ob', h3, es, h4, r, h5, h6⟩ := h'
    cases h6
    have hmr := ha _ hml
    rw [mapOf_some hmp] at hmr
    exact MemOk.unit (gives_entryStore (t := et) hs (hb _ hsv) hs' (hcc _ hvv) hmr h3 h4 h5) (by unfold execOp; simp only [ho])
  · -- range
    split at hc
    · rename_i kt e ht
      obtain ⟨la, rfl, ha⟩ := mone hc hop
      have h' : (om (getO la T) fun m => rangeLV m H) = some (x, H') := h
      simp only [om_some] at h'
      obtain ⟨m, hm, h2⟩ := h'
      exact MemOk.value (gives_range hs ht (ha _ hm) h2) (by unfold execOp; simp only [ho])
    · cases hc
  · repeat' (first | (cases hc; done) | exact (np1 hc).elim | exact (np2 hc).elim | exact (np0 hc).elim | exact (nc0 hc).elim | split at hc)
  · repeat' (first | (cases hc; done) | exact (np1 hc).elim | exact (np2 hc).elim | exact (np0 hc).elim | exact (nc0 hc).elim | split at hc)
  · -- call
    rename_i c
    split at hc
    · exact (nc0 hc).elim
    · split at hc <;> cases hc
    · rename_i b hb
      exact ms_call ho hb hc (by simpa [Call.operands, hb] using hop) hs h
    · cases hc
end
end Go.LX

/- LX, part 23: machine states: frames, what is deferred, how code ends. -/
namespace Go.LX
section
variable {P : Program}

/-- a deferred call -/
inductive DefRel (φ : Phi) : LDef → Deferred → Prop
  | call (f : Pos) {args : List LV} {cap as : Array Value} (h : Rels φ args (as ++ cap).toList) : DefRel φ (.call f args) { target := .fn (.func f.idx) cap, args := as }
  | coll {p : Pos} {r : Nat} (h : φ p = some (.obj r)) : DefRel φ (.coll p) { target := .collected r, args := #[] }
inductive DefsRel (φ : Phi) : List LDef → List Deferred → Prop
  | nil : DefsRel φ [] []
  | cons {d : LDef} {e : Deferred} {ds : List LDef} {es : List Deferred} (h : DefRel φ d e) (h' : DefsRel φ ds es) : DefsRel φ (d :: ds) (e :: es)
theorem DefRel.mono {φ ψ : Phi} (hle : φ.le ψ) {d : LDef} {e : Deferred} (h : DefRel φ d e) : DefRel ψ d e := by
  cases h with
  | call f h => exact .call f (h.mono hle)
  | coll h => exact .coll (hle _ _ h)
theorem DefsRel.mono {φ ψ : Phi} (hle : φ.le ψ) : ∀ {ds : List LDef} {es : List Deferred}, DefsRel φ ds es → DefsRel ψ ds es
  | _, _, .nil => .nil
  | _, _, .cons h h' => .cons (h.mono hle) (h'.mono hle)
/-- the mode of a frame that has left its code -/
inductive ModeRel (φ : Phi) : Pan → FrameMode → Prop
  | ret : ModeRel φ .ret .returning
  | pan {v : LV} {x : Value} (r : Bool) (h : Rel φ v x) : ModeRel φ (.pan v r) (.panicking [{ v := x, recovered := r }])
theorem ModeRel.mono {φ ψ : Phi} (hle : φ.le ψ) {u : Pan} {m : FrameMode} (h : ModeRel φ u m) : ModeRel ψ u m := by
  cases h with
  | ret => exact .ret
  | pan r h => exact .pan r (h.mono hle)
/-- what a frame is, and what lies below it -/
inductive UpRel (φ : Phi) (kind : CallKind) (ro : Option Nat) : Pan → List Frame → Prop
  | none {cs : List Frame} (hk : kind = .normal) (hr : ro = .none) : UpRel φ kind ro .none cs
  | rnd {cs : List Frame} {l : Nat} (hk : kind = .normal) (hr : ro = some l) : UpRel φ kind ro .rnd cs
  | dfr {u : Pan} {c : Frame} {cs : List Frame} (hk : kind = .deferred) (hr : ro = .none) (h : ModeRel φ u c.mode) : UpRel φ kind ro u (c :: cs)
theorem UpRel.mono {φ ψ : Phi} (hle : φ.le ψ) {kind : CallKind} {ro : Option Nat} {u : Pan} {cs : List Frame} (h : UpRel φ kind ro u cs) : UpRel ψ kind ro u cs := by
  cases h with
  | none hk hr => exact .none hk hr
  | rnd hk hr => exact .rnd hk hr
  | dfr hk hr h => exact .dfr hk hr (h.mono hle)
/-- the frames below: of a deferred call, the first may have another mode -/
def SameCs (kind : CallKind) (cs cs' : List Frame) : Prop := cs' = cs ∨ (kind = .deferred ∧ ∃ c t m, cs = c :: t ∧ cs' = { c with mode := m } :: t)
theorem SameCs.refl (kind : CallKind) (cs : List Frame) : SameCs kind cs cs := .inl rfl
theorem SameCs.trans {kind : CallKind} {a b c : List Frame} (h : SameCs kind a b) (h' : SameCs kind b c) : SameCs kind a c := by
  rcases h with rfl | ⟨hk, x, t, m, rfl, rfl⟩
  · exact h'
  · rcases h' with rfl | ⟨_, y, t', m', e, rfl⟩
    · exact .inr ⟨hk, x, t, m, rfl, rfl⟩
    · cases e
      exact .inr ⟨hk, x, t, m', rfl, rfl⟩
theorem SameCs.normal {kind : CallKind} {cs cs' : List Frame} (h : SameCs kind cs cs') (hk : kind = .normal) : cs' = cs := by
  rcases h with h | ⟨h, _⟩
  · exact h
  · rw [hk] at h; cases h

/-- a frame's state -/
structure FS (P : Program) (φ : Phi) (nt : Nat) (b : Frame) (T : Trie LV) (D : List LDef) (u : Pan) (a : Act) (cs : List Frame) (H : Heap) (w : World) : Prop where
  sim : Sim P φ H w
  tmps : TRel φ T a.tmps
  size : nt ≤ a.tmps.size
  defs : DefsRel φ D a.defers
  up : UpRel φ b.kind b.roundOf u cs
  there : (P.funcs[b.fn]?).isSome = true
/-- how a piece of code ends -/
inductive Arr (P : Program) (φ : Phi) (m : Machine) (b : Frame) (k : List Item) (a : Act) (cs : List Frame) (w : World) : Out → Prop
  | nrm (h : Steps P m (lone (b.atR a k) cs w)) : Arr P φ m b k a cs w .nrm
  | exit (id : Nat) (k' : List Item) (hk : exitTo id k' = exitTo id k) (h : Steps P m (lone (b.atR a (.code (.exit id) :: k')) cs w)) : Arr P φ m b k a cs w (.exit id)
  | ret (k' : List Item) (h : Steps P m (lone (b.atR a (.code .ret :: k')) cs w)) : Arr P φ m b k a cs w .ret
  | pan {v : LV} {x : Value} (todo : List Item) (hv : Rel φ v x) (h : Steps P m (lone { b.atR a todo with mode := .panicking [{ v := x, recovered := false }] } cs w)) : Arr P φ m b k a cs w (.pan v)
theorem Arr.of_steps {φ : Phi} {m m' : Machine} {b : Frame} {k : List Item} {a : Act} {cs : List Frame} {w : World} {o : Out} (hs : Steps P m m') (h : Arr P φ m' b k a cs w o) : Arr P φ m b k a cs w o := by
  cases h with
  | nrm h => exact .nrm (hs.trans h)
  | exit id k' hk h => exact .exit id k' hk (hs.trans h)
  | ret k' h => exact .ret k' (hs.trans h)
  | pan todo hv h => exact .pan todo hv (hs.trans h)

/-- code that runs from m, with k behind it: it comes to an end that kk takes -/
def Lands (P : Program) (φ : Phi) (H : Heap) (w : World) (nt : Nat) (b : Frame) (cs : List Frame) (m : Machine) (k : List Item) (kk : K) : Prop :=
  ∃ o T' H' D' u' φ' a' cs' w', kk o T' H' D' u' = true ∧ Stp P φ H w φ' H' w' ∧ FS P φ' nt b T' D' u' a' cs' H' w' ∧ SameCs b.kind cs cs' ∧ Arr P φ' m b k a' cs' w' o
section
variable {φ : Phi} {H : Heap} {w : World} {nt : Nat} {b : Frame} {cs : List Frame} {m m' : Machine} {k : List Item} {kk kk' : K}
theorem Lands.of_steps (hs : Steps P m m') (h : Lands P φ H w nt b cs m' k kk) : Lands P φ H w nt b cs m k kk := by
  obtain ⟨o, T', H', D', u', φ', a', cs', w', h1, h2, h3, h4, h5⟩ := h
  exact ⟨o, T', H', D', u', φ', a', cs', w', h1, h2, h3, h4, h5.of_steps hs⟩
theorem FS.asm {T : Trie LV} {D : List LDef} {u : Pan} {a : Act} (h : FS P φ nt b T D u a cs H w) {F : Facts} (hs : Sim P φ ⟨H.next, H.t, F⟩ w) : FS P φ nt b T D u a cs ⟨H.next, H.t, F⟩ w := ⟨hs, h.tmps, h.size, h.defs, h.up, h.there⟩
theorem Lands.of_asm {F : Facts} (h : Lands P φ ⟨H.next, H.t, F⟩ w nt b cs m k kk) : Lands P φ H w nt b cs m k kk := by
  obtain ⟨o, T', H', D', u', φ', a', cs', w', h1, h2, h3, h4, h5⟩ := h
  exact ⟨o, T', H', D', u', φ', a', cs', w', h1, h2.of_asm, h3, h4, h5⟩
theorem Lands.congr (he : ∀ o T H D u, kk o T H D u = kk' o T H D u) (h : Lands P φ H w nt b cs m k kk) : Lands P φ H w nt b cs m k kk' := by
  obtain ⟨o, T', H', D', u', φ', a', cs', w', h1, h2, h3, h4, h5⟩ := h
  exact ⟨o, T', H', D', u', φ', a', cs', w', by rw [← he]; exact h1, h2, h3, h4, h5⟩
theorem Lands.mono (he : ∀ o T H D u, kk o T H D u = true → kk' o T H D u = true) (h : Lands P φ H w nt b cs m k kk) : Lands P φ H w nt b cs m k kk' := by
  obtain ⟨o, T', H', D', u', φ', a', cs', w', h1, h2, h3, h4, h5⟩ := h
  exact ⟨o, T', H', D', u', φ', a', cs', w', he _ _ _ _ _ h1, h2, h3, h4, h5⟩
/-- what comes behind a stretch -/
theorem Lands.after {φ₁ : Phi} {H₁ : Heap} {w₁ : World} {cs₁ : List Frame} (h1 : Stp P φ H w φ₁ H₁ w₁) (hc : SameCs b.kind cs cs₁) (h : Lands P φ₁ H₁ w₁ nt b cs₁ m k kk) : Lands P φ H w nt b cs m k kk := by
  obtain ⟨o, T', H', D', u', φ', a', cs', w', h2, h3, h4, h5, h6⟩ := h
  exact ⟨o, T', H', D', u', φ', a', cs', w', h2, h1.trans h3, h4, hc.trans h5, h6⟩
/-- code that ends as kk₁ says, whose normal end goes on -/
theorem Lands.bind {x : Item} (hx : ∀ id, exitTo id (x :: k) = exitTo id k) {kk₁ : K} (h : Lands P φ H w nt b cs m (x :: k) kk₁)
    (hn : ∀ T' H' D' u' φ' a' cs' w', kk₁ .nrm T' H' D' u' = true → FS P φ' nt b T' D' u' a' cs' H' w' → Lands P φ' H' w' nt b cs' (lone (b.atR a' (x :: k)) cs' w') k kk)
    (ho : ∀ o T' H' D' u', o ≠ .nrm → kk₁ o T' H' D' u' = true → kk o T' H' D' u' = true) : Lands P φ H w nt b cs m k kk := by
  obtain ⟨o, T', H', D', u', φ', a', cs', w', h1, h2, h3, h4, h5⟩ := h
  cases h5 with
  | nrm hs => exact ((hn _ _ _ _ _ _ _ _ h1 h3).of_steps hs).after h2 h4
  | exit id k' hk hs => exact ⟨_, T', H', D', u', φ', a', cs', w', ho _ _ _ _ _ (by simp) h1, h2, h3, h4, .exit id k' (hk.trans (hx id)) hs⟩
  | ret k' hs => exact ⟨_, T', H', D', u', φ', a', cs', w', ho _ _ _ _ _ (by simp) h1, h2, h3, h4, .ret k' hs⟩
  | pan todo hv hs => exact ⟨_, T', H', D', u', φ', a', cs', w', ho _ _ _ _ _ (by simp) h1, h2, h3, h4, .pan todo hv hs⟩
theorem Lands.here {T : Trie LV} {D : List LDef} {u : Pan} {a : Act} (h : kk .nrm T H D u = true) (hf : FS P φ nt b T D u a cs H w) (hs : Steps P m (lone (b.atR a k) cs w)) : Lands P φ H w nt b cs m k kk :=
  ⟨.nrm, T, H, D, u, φ, a, cs, w, h, .refl hf.sim, hf, .refl _ _, .nrm hs⟩
end

/-- a call's end: the frame that is left -/
def EndRel (P : Program) (φ : Phi) (fr : Frame) (w : World) : Option LV → LV → Prop
  | none, v => ∃ x, Rel φ v x ∧ fr.going P w (.returned x)
  | some e, _ => ∃ x, Rel φ e x ∧ fr.going P w (.panicked [{ v := x, recovered := false }])
/-- the function is there -/
def FnThere (P : Program) (f : Nat) : Prop := ∃ fn, P.funcs[f]? = some fn ∧ fn.body.isSome = true ∧ (fn.name == "runtime.NumGoroutine") = false
def CallLands (P : Program) (φ : Phi) (H : Heap) (w : World) (f : Nat) (kind : CallKind) (cs : List Frame) (m : Machine) (kc : KC) : Prop :=
  ∃ pan v H' u' φ' w' cs' fr, kc pan v H' u' = true ∧ Stp P φ H w φ' H' w' ∧ UpRel φ' kind none u' cs' ∧ SameCs kind cs cs' ∧ Steps P m (lone fr cs' w') ∧ fr.kind = kind ∧ fr.fn = f ∧ EndRel P φ' fr w' pan v
def ClSound (P : Program) (cl : Cl) : Prop := ∀ (f : Pos) (args : List LV) (vs : List Value) (φ : Phi) (H : Heap) (w : World) (u : Pan) (kind : CallKind) (cs : List Frame) (kc : KC),
  cl f args H u kc = true → Sim P φ H w → Rels φ args vs → UpRel φ kind none u cs → FnThere P f.idx ∧ CallLands P φ H w f.idx kind cs (lone (Frame.enter P f.idx vs.toArray kind) cs w) kc
def ExSound (P : Program) (ex : Ex) : Prop := ∀ (nt : Nat) (c : Code) (T : Trie LV) (H : Heap) (D : List LDef) (u : Pan) (kk : K) (φ : Phi) (b : Frame) (a : Act) (cs : List Frame) (w : World) (k : List Item),
  ex (comp P nt c .nil) T H D u kk = true → FS P φ nt b T D u a cs H w → Lands P φ H w nt b cs (lone (b.atR a (.code c :: k)) cs w) k kk
/-- a loop has no normal end -/
def noNrm (kk : K) : K := fun o T H D u => match o with | .nrm => false | o => kk o T H D u
def LpSound (P : Program) (ex : Ex) : Prop := ∀ (nt : Nat) (c : Code) (T : Trie LV) (H : Heap) (D : List LDef) (u : Pan) (kk : K) (φ : Phi) (b : Frame) (a : Act) (cs : List Frame) (w : World) (k : List Item),
  ex (.loop (comp P nt c .nil)) T H D u kk = true → FS P φ nt b T D u a cs H w → Lands P φ H w nt b cs (lone (b.atR a (.inLoop c :: k)) cs w) k (noNrm kk)
structure LoSound (P : Program) (lo : Lo) : Prop where
  ex : ExSound P lo.ex
  lp : LpSound P lo.ex
  cl : ClSound P lo.cl
end
end Go.LX

/- LX, part 24: calls, as their caller sees them; rounds of a range over a function. -/
namespace Go.LX
section
variable {P : Program} {φ : Phi} {H : Heap} {w : World}

/-- a call, as its caller sees it -/
def CallerLands (P : Program) (φ : Phi) (H : Heap) (w : World) (c : Frame) (cs : List Frame) (m : Machine) (kc : KC) : Prop :=
  ∃ pan v H' φ' w', kc pan v H' .none = true ∧ Stp P φ H w φ' H' w' ∧ match pan with
    | none => ∃ x, Rel φ' v x ∧ Steps P m (lone (c.finish x) cs w')
    | some e => ∃ x, Rel φ' e x ∧ Steps P m (lone (c.raise [{ v := x, recovered := false }]) cs w')
theorem CallerLands.of_steps {c : Frame} {cs : List Frame} {m m' : Machine} {kc : KC} (hs : Steps P m m') (h : CallerLands P φ H w c cs m' kc) : CallerLands P φ H w c cs m kc := by
  obtain ⟨pan, v, H', φ', w', h1, h2, h3⟩ := h
  refine ⟨pan, v, H', φ', w', h1, h2, ?_⟩
  cases pan with
  | none => obtain ⟨x, hr, hs'⟩ := h3; exact ⟨x, hr, hs.trans hs'⟩
  | some e => obtain ⟨x, hr, hs'⟩ := h3; exact ⟨x, hr, hs.trans hs'⟩
theorem CallerLands.after {φ₁ : Phi} {H₁ : Heap} {w₁ : World} {c : Frame} {cs : List Frame} {m : Machine} {kc : KC} (h1 : Stp P φ H w φ₁ H₁ w₁) (h : CallerLands P φ₁ H₁ w₁ c cs m kc) : CallerLands P φ H w c cs m kc := by
  obtain ⟨pan, v, H', φ', w', h2, h3, h4⟩ := h
  exact ⟨pan, v, H', φ', w', h2, h1.trans h3, h4⟩
theorem caller_of_call {f : Nat} {c : Frame} {cs : List Frame} {m : Machine} {kc : KC} (h : CallLands P φ H w f .normal (c :: cs) m kc) : CallerLands P φ H w c cs m kc := by
  obtain ⟨pan, v, H', u', φ', w', cs', fr, h1, h2, h3, h4, h5, h6, _, h7⟩ := h
  have e := h4.normal rfl
  subst e
  have hu : u' = .none := by cases h3 with
    | none hk hr => rfl
    | rnd hk hr => cases hr
    | dfr hk hr h => cases hk
  subst hu
  refine ⟨pan, v, H', φ', w', h1, h2, ?_⟩
  cases pan with
  | none =>
    obtain ⟨x, hr, hm, hd, hf⟩ := h7
    exact ⟨x, hr, h5.trans (.one (step_leave_returned ⟨hm, hd, h6, hf⟩))⟩
  | some e =>
    obtain ⟨x, hr, hm, hd, hf⟩ := h7
    exact ⟨x, hr, h5.trans (.one (step_leave_panicked ⟨hm, hd, hf⟩))⟩

/-! rounds -/
theorem asLoop_some {o : LO} {e : Nat × Out × Trie LV × List Pos × LCode × LCode} (h : o.asLoop = some e) : o = .loop e.1 e.2.1 e.2.2.1 e.2.2.2.1 e.2.2.2.2.1 e.2.2.2.2.2 := by
  cases o <;> simp [LO.asLoop] at h; subst h; rfl
theorem Sim.loop (hs : Sim P φ H w) {l : Pos} {o : LO} {r : Nat × Out × Trie LV × List Pos × LCode × LCode} (hl : H.t.get l = some o) (ho : o.asLoop = some r) :
    ∃ rl L, φ l = some (.obj rl) ∧ w.heap[rl]? = some (.loop L) ∧ LoopRel P φ r.1 r.2.1 r.2.2.1 r.2.2.2.1 r.2.2.2.2.1 r.2.2.2.2.2 L := by
  have e := asLoop_some ho
  subst e
  obtain ⟨rl, x, h1, h2, h3⟩ := hs.obj hl (by simp)
  cases h3 with
  | loop hr => exact ⟨rl, _, h1, h2, hr⟩
theorem run_getLoop {rl : Nat} {L : Loop} (h : w.heap[rl]? = some (.loop L)) : (Instr.getLoop rl).run P w = .ok L w := by
  simp [Instr.getLoop, run_getObj (P := P) h (by simp)]
theorem run_beginRound {rl : Nat} {L : Loop} (h : w.heap[rl]? = some (.loop L)) (hr : L.state = .ready) :
    (Instr.beginRound rl).run P w = .ok () { w with heap := w.heap.setIfInBounds rl (.loop { L with state := .busy }) } := by
  simp [Instr.beginRound, run_getLoop h, run_setObj (P := P) h (by simp), hr]
theorem run_endRound {rl : Nat} {L : Loop} (h : w.heap[rl]? = some (.loop L)) (j : Option Code) :
    (Instr.endRound rl j).run P w = .ok (.bool j.isNone) { w with heap := w.heap.setIfInBounds rl (.loop { L with state := if j.isNone then .ready else .done, pending := j }) } := by
  simp [Instr.endRound, run_getLoop h, run_setObj (P := P) h (by simp)]
theorem setPs_sound : ∀ {ps : List Nat} {vs : List LV} {xs : List Value} {T T' : Trie LV} {tmps : Array Value}, setPs T (ps.map posOf) vs = some T' → Rels φ vs xs → TRel φ T tmps → (∀ p ∈ ps, p < tmps.size) →
    ps.length = xs.length ∧ TRel φ T' ((ps.zip xs).foldl (fun t (p, a) => t.setIfInBounds p a) tmps)
  | [], [], _, T, T', tmps, h, .nil, ht, _ => by
    have h' : some T = some T' := h
    cases h'; exact ⟨rfl, ht⟩
  | p :: ps, v :: vs, _, T, T', tmps, h, .cons hv hvs, ht, hp => by
    have h' : setPs (T.put (some v) (posOf p)) (ps.map posOf) vs = some T' := h
    obtain ⟨h1, h2⟩ := setPs_sound h' hvs (ht.put (hp p (by simp)) hv) (fun q hq => by rw [Array.size_setIfInBounds]; exact hp q (by simp [hq]))
    exact ⟨by simp [h1], by simpa using h2⟩
  | [], _ :: _, _, T, T', tmps, h, _, _, _ => by cases h
  | _ :: _, [], _, T, T', tmps, h, _, _, _ => by cases h
theorem foldl_set_size : ∀ (l : List (Nat × Value)) (t : Array Value), (l.foldl (fun t (p, a) => t.setIfInBounds p a) t).size = t.size
  | [], t => rfl
  | x :: l, t => by rw [List.foldl_cons, foldl_set_size l]; simp

theorem callYld_sound {lo : Lo} (hlo : LoSound P lo) {l : Pos} {vs : List LV} {xs : List Value} {kc : KC} (hs : Sim P φ H w) (hvs : Rels φ vs xs) {rl : Nat} (hφ : φ l = some (.obj rl)) (h : callYld l vs lo H kc = true) :
    ∃ f tmps assign body, (Instr.yield rl xs.toArray).run P w = .ok (.round rl f tmps assign body) w ∧ ∀ c cs, CallerLands P φ H w c cs (lone (Frame.round rl f tmps assign body .normal) (c :: cs) w) kc := by
  unfold callYld at h
  simp only [bb_true] at h
  obtain ⟨o, ho, r, hr, T₁, hT₁, hex⟩ := h
  obtain ⟨rl', L, hφ', hheap, hL⟩ := hs.loop ho hr
  rw [hφ] at hφ'; cases hφ'
  obtain ⟨nt, hnt, hps, ha, hb⟩ := hL.code
  rw [← hL.params] at hT₁
  obtain ⟨hlen, hT⟩ := setPs_sound hT₁ hvs hL.tmps (fun p hp => Nat.lt_of_lt_of_le (hps p hp) hnt)
  refine ⟨L.fn, ((L.params.toList.zip xs).foldl (fun t (p, a) => t.setIfInBounds p a) L.tmps), L.assign, L.body, ?_, fun c cs => ?_⟩
  · have hsz : ¬ (xs.toArray.size ≠ L.params.size) := by
      simp only [ne_eq, Decidable.not_not]
      rw [← Array.length_toList, ← Array.length_toList, hlen]
    simp only [Instr.yield, Sem.run_bind, run_getLoop hheap, Result.andThen_ok, if_neg hsz, Sem.run_pure]
    rw [← Array.foldl_toList, Array.toList_zip]
  · let b : Frame := { (default : Frame) with fn := L.fn, kind := .normal, roundOf := some rl }
    obtain ⟨a₀, ha₀⟩ : ∃ a₀ : Act, a₀ = { tmps := (L.params.toList.zip xs).foldl (fun t (p, a) => t.setIfInBounds p a) L.tmps, defers := [] } := ⟨_, rfl⟩
    have henter : Frame.round rl L.fn ((L.params.toList.zip xs).foldl (fun t (p, a) => t.setIfInBounds p a) L.tmps) L.assign L.body .normal = b.atR a₀ [.code L.assign, .beginRound, .code L.body] := by
      simp [Frame.round, Frame.atR, b, ha₀]
    rw [henter]
    rw [ha] at hex
    have hfs : FS P φ nt b T₁ [] .rnd a₀ (c :: cs) H w := ⟨hs, by rw [ha₀]; exact hT, by rw [ha₀]; simpa [foldl_set_size] using hnt, by rw [ha₀]; exact .nil, .rnd rfl rfl, hL.there⟩
    obtain ⟨o1, T1, H1, D1, u1, φ1, a1, cs1, w1, h1, h2, h3, h4, h5⟩ := hlo.ex nt L.assign T₁ H [] .rnd _ φ b a₀ (c :: cs) w [.beginRound, .code L.body] hex hfs
    have e := h4.normal rfl
    subst e
    have hroundA : o1 = .nrm ∧ D1 = [] ∧ ∃ ob r', H1.t.get l = some ob ∧ ob.asLoop = some r' ∧ r'.1 = 0 ∧ lo.ex r.2.2.2.2.2 T1 (H1.setO l (.loop 1 r'.2.1 r'.2.2.1 r'.2.2.2.1 r'.2.2.2.2.1 r'.2.2.2.2.2)) [] .rnd (roundK l kc) = true := by
      unfold roundA at h1
      split at h1
      · simp only [bb_true, ib_ff] at h1
        obtain ⟨ob, hob, r', hr', h6, h7⟩ := h1
        exact ⟨rfl, rfl, ob, r', hob, hr', beq_iff.1 h6, h7⟩
      · cases h1
    obtain ⟨rfl, rfl, ob, r', hob, hr', h0, hex2⟩ := hroundA
    cases h5 with
    | nrm hsteps =>
      obtain ⟨rl2, L1, hφ2, hheap1, hL1⟩ := h3.sim.loop hob hr'
      rw [h2.le _ _ hφ] at hφ2; cases hφ2
      have hst : L1.state = .ready := by
        have := hL1.st
        rw [h0] at this
        cases hx : L1.state <;> simp [StRel, hx] at this
        rfl
      have hbeg := run_beginRound (P := P) hheap1 hst
      have hw1 := write_obj (P := P) (o := .loop 1 r'.2.1 r'.2.2.1 r'.2.2.2.1 r'.2.2.2.2.1 r'.2.2.2.2.2) h3.sim hob (h2.le _ _ hφ) (x := .loop { L1 with state := .busy }) (by rw [hheap1]; rfl) (.loop ⟨trivial, hL1.pending, hL1.tmps, hL1.params, hL1.there, hL1.code⟩)
      have s1 := stepR_beginRound (P := P) (b := b) (a := a1) (k := [.code L.body]) (cs := c :: cs) rfl hbeg
      rw [hb] at hex2
      have hfs2 : FS P φ1 nt b T1 [] .rnd a1 (c :: cs) (H1.setO l (.loop 1 r'.2.1 r'.2.2.1 r'.2.2.2.1 r'.2.2.2.2.1 r'.2.2.2.2.2)) _ := ⟨hw1.sim, h3.tmps, h3.size, h3.defs, .rnd rfl rfl, h3.there⟩
      obtain ⟨o2, T2, H2, D2, u2, φ2, a2, cs2, w2, g1, g2, g3, g4, g5⟩ := hlo.ex nt L.body T1 _ [] .rnd _ φ1 b a1 (c :: cs) _ [] hex2 hfs2
      have e := g4.normal rfl
      subst e
      have hpre := (hsteps.trans (.one s1))
      have hst2 := (h2.trans hw1).trans g2
      have hφ3 : φ2 l = some (.obj rl) := g2.le _ _ (h2.le _ _ hφ)
      -- what a round's end writes
      have hend : ∀ (st : Nat) (oo : Out) (j : Option Code), OutCode oo = j → StRel st (if j.isNone then .ready else .done) → ∀ {f : Heap → Bool}, reSt H2 l st oo f = true →
          ∃ H3 w3, f H3 = true ∧ (Instr.endRound rl j).run P w2 = .ok (.bool j.isNone) w3 ∧ Stp P φ2 H2 w2 φ2 H3 w3 := by
        intro st oo j hj hst f hf
        unfold reSt at hf
        simp only [bb_true] at hf
        obtain ⟨ob3, hob3, r3, hr3, hf⟩ := hf
        obtain ⟨rl3, L3, hφ4, hheap3, hL3⟩ := g3.sim.loop hob3 hr3
        rw [hφ3] at hφ4; cases hφ4
        exact ⟨_, _, hf, run_endRound hheap3 j, write_obj g3.sim hob3 hφ3 (by rw [hheap3]; rfl) (.loop ⟨hst, hj.symm, hL3.tmps, hL3.params, hL3.there, hL3.code⟩)⟩
      cases g5 with
      | nrm hs2 =>
        unfold roundK at g1
        split at g1
        · obtain ⟨H3, w3, h6, h7, h8⟩ := hend 0 .nrm none rfl trivial g1
          exact ⟨none, _, H3, φ2, w3, h6, hst2.trans h8, _, .bool true, hpre.trans (hs2.trans (.one (stepR_round_end rfl rfl h7)))⟩
        · rename_i e; cases e
        · rename_i e _; exact absurd rfl e
        · cases g1
      | exit id k' hk hs2 =>
        unfold roundK at g1
        split at g1
        · rename_i e; cases e
        · rename_i e; cases e
        · obtain ⟨H3, w3, h6, h7, h8⟩ := hend 2 (.exit id) (some (.exit id)) rfl trivial g1
          exact ⟨none, _, H3, φ2, w3, h6, hst2.trans h8, _, .bool false, hpre.trans (hs2.trans (.one (stepR_round_exit rfl rfl (by rw [hk]; rfl) h7)))⟩
        · cases g1
      | ret k' hs2 =>
        unfold roundK at g1
        split at g1
        · rename_i e; cases e
        · rename_i e; cases e
        · obtain ⟨H3, w3, h6, h7, h8⟩ := hend 2 .ret (some .ret) rfl trivial g1
          exact ⟨none, _, H3, φ2, w3, h6, hst2.trans h8, _, .bool false, hpre.trans (hs2.trans (.one (stepR_round_ret rfl rfl h7)))⟩
        · cases g1
      | pan todo hv hs2 =>
        unfold roundK at g1
        split at g1
        · rename_i e; cases e
        · rename_i v' e
          cases e
          have hd : a2.defers = [] := by have := g3.defs; generalize a2.defers = ds at this; cases this; rfl
          obtain ⟨fn, hfn⟩ := Option.isSome_iff_exists.1 g3.there
          refine ⟨some _, _, H2, φ2, w2, g1, hst2, _, hv, hpre.trans (hs2.trans (.one (step_leave_panicked ⟨rfl, hd, fn, hfn⟩)))⟩
        · rename_i e; exact absurd rfl (e _)
        · cases g1
end
end Go.LX

/- LX, part 25: the step of a map's iterator. -/
namespace Go.LX
section
variable {P : Program} {φ : Phi} {H : Heap} {w : World}

theorem allB_true {α : Type} {f : α → Bool} : ∀ {l : List α}, allB l f = true → ∀ x ∈ l, f x = true
  | [], _, x, hx => by cases hx
  | y :: l, h, x, hx => by
    have h' : ib (f y) (allB l f) false = true := h
    rw [ib_ff] at h'
    rcases List.mem_cons.1 hx with rfl | hx
    · exact h'.1
    · exact allB_true h'.2 x hx
theorem allB_iff {α : Type} {f : α → Bool} : ∀ {l : List α}, allB l f = l.all f
  | [] => rfl
  | y :: l => by
    have h' : allB (y :: l) f = ib (f y) (allB l f) false := rfl
    rw [h', allB_iff, List.all_cons]
    cases f y <;> rfl
theorem memB_eq (x : Nat) : ∀ l : List Nat, memB x l = l.contains x
  | [] => rfl
  | y :: l => by
    have h' : memB x (y :: l) = ib (Nat.beq x y) true (memB x l) := rfl
    rw [h', memB_eq x l, List.contains_cons]
    by_cases h : x = y
    · subst h; simp
    · have h1 : Nat.beq x y = false := by cases hb : Nat.beq x y; · rfl
                                          · exact absurd (beq_iff.1 hb) h
      have h2 : (x == y) = false := beq_eq_false_iff_ne.2 h
      rw [h1, h2]; rfl
theorem isEmpty_of {α β : Type} {a : Array α} {l : List β} (h : a.size = l.length) : a.isEmpty = l.isEmpty := by
  cases l with
  | nil => simp at h; simp [h]
  | cons x l => simp only [List.isEmpty_cons, Array.isEmpty, h]; simp
/-- entries that go together, of which some are left out -/
theorem ents_filter {p : Ent → Bool} {q : MapEntry → Bool} (hpq : ∀ e m, EntRel φ e m → p e = q m) : ∀ {es : List Ent} {ms : List MapEntry}, EntsRel φ es ms → EntsRel φ (es.filter p) (ms.filter q)
  | _, _, .nil => .nil
  | _, _, .cons h h' => by
    rename_i e m es ms
    rw [List.filter_cons, List.filter_cons, ← hpq e m h]
    split
    · exact .cons h (ents_filter hpq h')
    · exact ents_filter hpq h'
theorem EntsRel.get : ∀ {es : List Ent} {ms : List MapEntry}, EntsRel φ es ms → ∀ {i : Nat} {m : MapEntry}, ms[i]? = some m → ∃ e, e ∈ es ∧ EntRel φ e m
  | _, _, .nil, i, m, h => by simp at h
  | _, _, .cons h0 h', 0, m, h => by simp at h; subst h; exact ⟨_, by simp, h0⟩
  | _, _, .cons h0 h', i+1, m, h => by
    obtain ⟨e, he, hr⟩ := EntsRel.get h' (by simpa using h)
    exact ⟨e, by simp [he], hr⟩
theorem ents_all {p : Ent → Bool} {q : MapEntry → Bool} (hpq : ∀ e m, EntRel φ e m → p e = q m) : ∀ {es : List Ent} {ms : List MapEntry}, EntsRel φ es ms → es.all p = ms.all q
  | _, _, .nil => rfl
  | _, _, .cons h h' => by simp [List.all_cons, hpq _ _ h, ents_all hpq h']
theorem choose_next {n : Nat} (hn : 0 < n) : ∃ i k, (choose (.mapNext n)).run P w = .ok i (w.drewN k) ∧ i < n := by
  rw [run_choose_drew]
  by_cases h : (Question.mapNext n).forced = true
  · exact ⟨0, 0, by rw [if_pos h]; rfl, hn⟩
  · exact ⟨_, 1, by rw [if_neg h]; rfl, Nat.mod_lt _ hn⟩

section
variable {x : LV} {v : Value} {T : Trie LV} {D : List LDef} {u : Pan} {k : K} {dst : Option Pos} {r : Run} {lo : Lo}
theorem next_sound (hs : Sim P φ H w) (hx : Rel φ x v) (ty : TypeId) (h : doNext x dst r lo T H D u k = true) :
    ∃ y vy w' H', (Instr.next v false ty).run P w = .ok vy w' ∧ Rel φ y vy ∧ Stp P φ H w φ H' w' ∧ r lo (putD T dst y) H' D u k = true := by
  unfold doNext at h
  simp only [bb_true] at h
  obtain ⟨it, hit, o, ho, i, hi, h⟩ := h
  have hit := itrOf_some hit
  subst hit
  obtain ⟨ri, hφ, rfl⟩ := rel_itr hx
  have hi := asIter_some hi
  subst hi
  obtain ⟨ri', ob, hφ', hheap, hob⟩ := hs.obj ho (by simp)
  rw [hφ] at hφ'; cases hφ'
  obtain ⟨im, since, seen, last⟩ := i
  simp only at h hob ho
  have hover : Rel φ (.tup [.bool false]) (.tuple #[.bool false]) := .tup (.cons (.bool _) .nil)
  cases im with
  | none =>
    have h' : r lo (putD T dst (.tup [.bool false])) H D u k = true := h
    cases hob
    refine ⟨_, _, w, H, ?_, hover, .refl hs, h'⟩
    simp [Instr.next, run_getObj (P := P) hheap]
  | some m =>
    have h' : (bb (H.t.get m) fun o => bb o.asMap fun es =>
        ib (ib (Nat.beq seen.length 0) true (ib (Nat.beq es.1.length 0) true (bnot (allB es.1 fun e => Nat.ble last e.born))))
          (ib (@List.rec Ent (fun _ => Bool) (r lo (putD T dst (.tup [.bool false])) H D u k) (fun _ _ _ => true) (candOld es.1 since seen))
            (allB (candOld es.1 since seen ++ candNew es.1 since seen) fun e => r lo (putD T dst (.tup [.bool true, e.key, e.val])) (H.setO it (.iter (some m) since (e.born :: seen) es.2)) D u k) false) false) = true := h
    simp only [bb_true, ib_ff] at h'
    obtain ⟨om', hom, es, hes, hchk, hov, hall⟩ := h'
    cases hob with
    | iter since seen seen' last hφm hseen =>
    rename_i rm
    obtain ⟨rm', ms, hφm', hheapm, hrel⟩ := hs.map hom hes
    rw [hφm] at hφm'; cases hφm'
    have hseenE : seen'.isEmpty = seen.isEmpty := isEmpty_of (by rw [← Array.length_toList, hseen, List.length_reverse])
    have hborn : ∀ e m', EntRel φ e m' → e.born = m'.born := fun e m' h => h.born
    have hcont : ∀ n, seen'.contains n = memB n seen := by
      intro n
      rw [memB_eq, ← Array.contains_toList, hseen]
      by_cases hn : n ∈ seen <;> simp [hn]
    have hcheck : (!seen'.isEmpty && !ms.isEmpty && ms.all (·.born ≥ last)) = false := by
      rw [ib_eq, ib_eq] at hchk
      have e2 : ms.all (·.born ≥ last) = es.1.all fun e => Nat.ble last e.born := by
        rw [← Array.all_toList]
        refine (ents_all (fun e m' h => ?_) hrel).symm
        rw [hborn e m' h]
        by_cases hle : last ≤ m'.born
        · rw [ble_iff.2 hle]; simp [hle]
        · have : Nat.ble last m'.born = false := by cases hb : Nat.ble last m'.born; · rfl
                                                    · exact absurd (ble_iff.1 hb) hle
          rw [this]; simp [hle]
      rw [e2, hseenE]
      have e3 : ms.isEmpty = es.1.isEmpty := isEmpty_of (by rw [← Array.length_toList, hrel.length])
      rw [e3]
      split at hchk
      · rename_i h0; have := beq_iff.1 h0; rw [List.length_eq_zero_iff] at this; rw [this]; rfl
      · split at hchk
        · rename_i h0; have := beq_iff.1 h0; rw [List.length_eq_zero_iff] at this; rw [this]; simp
        · rw [allB_iff] at hchk
          cases hx : (es.1.all fun e => Nat.ble last e.born)
          · simp
          · rw [hx] at hchk; cases hchk
    -- the candidates
    obtain ⟨old, hold⟩ : ∃ old, old = (ms.filter fun e => !seen'.contains e.born).filter (·.born < since) := ⟨_, rfl⟩
    obtain ⟨new, hnew⟩ : ∃ new, new = (ms.filter fun e => !seen'.contains e.born).filter (·.born ≥ since) := ⟨_, rfl⟩
    have hlt : ∀ a b : Nat, ltB a b = decide (a < b) := by
      intro a b
      unfold ltB
      by_cases h : a < b
      · rw [ble_iff.2 h]; simp [h]
      · have : Nat.ble (Nat.succ a) b = false := by cases hb : Nat.ble (Nat.succ a) b; · rfl
                                                    · exact absurd (ble_iff.1 hb) h
        rw [this]; simp [h]
    have hco : EntsRel φ (candOld es.1 since seen) old.toList := by
      rw [hold, Array.toList_filter, Array.toList_filter, List.filter_filter]
      refine ents_filter (fun e m' h => ?_) hrel
      rw [hborn e m' h, hcont, hlt, ib_eq]
      cases memB m'.born seen <;> simp
    have hcn : EntsRel φ (candNew es.1 since seen) new.toList := by
      rw [hnew, Array.toList_filter, Array.toList_filter, List.filter_filter]
      refine ents_filter (fun e m' h => ?_) hrel
      rw [hborn e m' h, hcont, hlt, ib_eq]
      cases memB m'.born seen
      · by_cases hb : m'.born < since
        · have : ¬ since ≤ m'.born := by omega
          simp [hb, this, bnot]
        · have : since ≤ m'.born := by omega
          simp [hb, this, bnot]
      · simp
    obtain ⟨cands, hcands⟩ : ∃ cands : Array (Option MapEntry), cands = (if old.isEmpty then #[none] else #[]) ++ (old ++ new).map some := ⟨_, rfl⟩
    have hpos : 0 < cands.size := by
      rw [hcands]
      rw [Array.size_append, Array.size_map, Array.size_append]
      by_cases hx : old.isEmpty = true
      · rw [if_pos hx]; simp only [List.size_toArray, List.length_singleton]; omega
      · have h0 : old.size ≠ 0 := fun h0 => hx (by simp [Array.isEmpty, h0])
        omega
    obtain ⟨ix, kk, hch, hix⟩ := choose_next (P := P) (w := w) hpos
    have hd := hs.drewN kk
    have hg := run_getObj (P := P) hheap (by simp)
    have hgm := run_getMap (P := P) hheapm
    have hrun : (Instr.next (.pointer (some ⟨ri, 0, none⟩)) false ty).run P w = ((match cands[ix]? with
        | some (some e) => do
          setObj ri (.mapIter (some rm) since (seen'.push e.born) es.2)
          pure (.tuple #[.bool true, e.key, e.val])
        | some none => pure (.tuple #[.bool false])
        | none => stuck "Next: no such candidate") : Sem Value).run P (w.drewN kk) := by
      simp only [Instr.next, Sem.run_bind, hg, Result.andThen_ok, hgm, hcheck, Bool.false_eq_true, if_false]
      rw [← hold, ← hnew, ← hcands, hch, Result.andThen_ok]
      cases cands[ix]? with
      | none => rfl
      | some c => cases c <;> rfl
    rw [hrun]
    cases hc : cands[ix]? with
    | none => rw [Array.getElem?_eq_getElem hix] at hc; cases hc
    | some c =>
      cases c with
      | none =>
        have hoe : old.isEmpty = true := by
          cases hx : old.isEmpty with
          | true => rfl
          | false =>
            rw [hx] at hcands
            rw [hcands] at hc
            have h9 : (none : Option MapEntry) ∈ (if false = true then #[none] else #[]) ++ (old ++ new).map some := Array.mem_of_getElem? hc
            simp at h9
        have hoe' : candOld es.1 since seen = [] := by
          have := hco.length
          rw [Array.length_toList] at this
          simp at hoe
          rw [hoe] at this
          exact List.eq_nil_of_length_eq_zero (by simpa using this.symm)
        rw [hoe'] at hov
        exact ⟨_, _, w.drewN kk, H, rfl, hover, hd, hov⟩
      | some e =>
        have hmem : ∃ j : Nat, (old ++ new).toList[j]? = some e := by
          have h1 : some e ∈ cands := Array.mem_of_getElem? hc
          rw [hcands, Array.mem_append] at h1
          have h2 : e ∈ old ++ new := by
            rcases h1 with h1 | h1
            · split at h1 <;> simp at h1
            · rw [Array.mem_map] at h1
              obtain ⟨y, hy, e'⟩ := h1
              cases e'; exact hy
          exact List.getElem?_of_mem (Array.mem_toList_iff.2 h2)
        obtain ⟨j, hj⟩ := hmem
        rw [Array.toList_append] at hj
        obtain ⟨le, hle, hre⟩ := (hco.append hcn).get hj
        have hk := allB_true hall le hle
        have hset := run_setObj (P := P) (w := w.drewN kk) (r := ri) (x := .mapIter (some rm) since (seen'.push e.born) es.2) hheap (by simp)
        refine ⟨.tup [.bool true, le.key, le.val], .tuple #[.bool true, e.key, e.val], { w.drewN kk with heap := (w.drewN kk).heap.setIfInBounds ri (.mapIter (some rm) since (seen'.push e.born) es.2) }, H.setO it (.iter (some m) since (le.born :: seen) es.2), ?_, .tup (.cons (.bool _) (.cons hre.key (.cons hre.val .nil))), ?_, hk⟩
        · simp [hset]
        · refine hd.trans (write_obj hd.sim ho hφ (by rw [show (w.drewN kk).heap = w.heap from rfl, hheap]; rfl) (.iter _ _ _ _ hφm ?_))
          simp [hseen, hre.born]
end
end
end Go.LX

/- LX, part 26: one operation of a region. -/
namespace Go.LX
section
variable {P : Program} {φ : Phi} {H : Heap} {w : World} {b : Frame} {a : Act} {k : List Item} {cs : List Frame} {ops : Array Oper} {i : Nat} {rest : List Nat} {o : Oper}

theorem op_value {w' : World} {nx : Next} {v : Value} (ho : ops[i]? = some o) (hw : Region.wanted o (yielded ops a.tmps) = true) (hd : ∀ c, o.op ≠ .defer c) (hr : (execOp a.eval o).run P w = .ok nx w') (hv : nx = .value v ∨ (nx = .skip ∧ v = undef)) :
    step P (lone (b.atR a (.inRegion ops (i :: rest) :: k)) cs w) = .next (lone (b.atR (a.put o.dst v) (.inRegion ops rest :: k)) cs w') := by
  have hg := stepGR_op (P := P) (b := b) (k := k) (cs := cs) (w := w) (rest := rest) ho hw
  rw [Oper.semAt_eq _ _ _ hd] at hg
  have hfin : (b.atR a (.inRegion ops (i :: rest) :: k)).finish v = b.atR (a.put o.dst v) (.inRegion ops rest :: k) := by rw [Frame.finish_atR, ho]; rfl
  refine step_lone_go ?_
  rw [hg, ← hfin]
  rcases hv with rfl | ⟨rfl, rfl⟩ <;> simp [stepG.apply, hr]
theorem op_skip (ho : ops[i]? = some o) (hw : Region.wanted o (yielded ops a.tmps) = false) :
    step P (lone (b.atR a (.inRegion ops (i :: rest) :: k)) cs w) = .next (lone (b.atR (a.put o.dst undef) (.inRegion ops rest :: k)) cs w) := by
  have := stepR_op_skip (P := P) (b := b) (k := k) (cs := cs) (w := w) (rest := rest) (ops := ops) (i := i) (a := a) (by simp [ho, hw])
  rw [ho] at this
  exact this
theorem op_panic {w' : World} {v : Value} (ho : ops[i]? = some o) (hw : Region.wanted o (yielded ops a.tmps) = true) (hd : ∀ c, o.op ≠ .defer c) (hr : (execOp a.eval o).run P w = .halt (.panic v) w') :
    step P (lone (b.atR a (.inRegion ops (i :: rest) :: k)) cs w) = .next (lone { b.atR a (.inRegion ops (i :: rest) :: k) with mode := .panicking [{ v, recovered := false }] } cs w') := by
  have hg := stepGR_op (P := P) (b := b) (k := k) (cs := cs) (w := w) (rest := rest) ho hw
  rw [Oper.semAt_eq _ _ _ hd] at hg
  refine step_lone_go ?_
  rw [hg, ← Frame.raise_atR]
  simp [stepG.apply, hr]
/-- the frame that an operation enters -/
inductive EnterOf (P : Program) : Next → Frame → Prop
  | enter (f : FuncId) (args : Array Value) : EnterOf P (.enter f args) (Frame.enter P f args .normal)
  | round (l : Nat) (f : FuncId) (tmps : Array Value) (assign body : Code) : EnterOf P (.round l f tmps assign body) (Frame.round l f tmps assign body .normal)
theorem op_enter {w' : World} {nx : Next} {fr : Frame} (ho : ops[i]? = some o) (hw : Region.wanted o (yielded ops a.tmps) = true) (hd : ∀ c, o.op ≠ .defer c) (hr : (execOp a.eval o).run P w = .ok nx w') (he : EnterOf P nx fr) :
    step P (lone (b.atR a (.inRegion ops (i :: rest) :: k)) cs w) = .next (lone fr (b.atR a (.inRegion ops (i :: rest) :: k) :: cs) w') := by
  have hg := stepGR_op (P := P) (b := b) (k := k) (cs := cs) (w := w) (rest := rest) ho hw
  rw [Oper.semAt_eq _ _ _ hd] at hg
  refine step_lone_go ?_
  rw [hg]
  cases he <;> simp [stepG.apply, hr, Frame.atR]
theorem op_defer {w' : World} {d : Deferred} (hb : b.roundOf = none) (ho : ops[i]? = some o) (hw : Region.wanted o (yielded ops a.tmps) = true) (hr : (execOp a.eval o).run P w = .ok (.defer d) w') :
    step P (lone (b.atR a (.inRegion ops (i :: rest) :: k)) cs w) = .next (lone (b.atR ({ a with defers := d :: a.defers }.put o.dst undef) (.inRegion ops rest :: k)) cs w') := by
  have hg := stepGR_op (P := P) (b := b) (k := k) (cs := cs) (w := w) (rest := rest) ho hw
  rw [hb, Oper.semAt_none] at hg
  have : ({ b.atR a (.inRegion ops (i :: rest) :: k) with defers := d :: a.defers } : Frame).finish undef = b.atR ({ a with defers := d :: a.defers }.put o.dst undef) (.inRegion ops rest :: k) := by
    have := Frame.finish_atR b { a with defers := d :: a.defers } ops i rest k undef
    rw [ho] at this; exact this
  refine step_lone_go ?_
  rw [hg]; simp only [stepG.apply, Sem.runT_eq, hr, GStep.bare_after]
  exact congrArg (fun fr => GStep.go { frame := fr, callers := cs, status := .running, dying := none } w') this
theorem op_recover {w' : World} (hb : b.roundOf = none) (hk : b.kind = .deferred) (ho : ops[i]? = some o) (hw : Region.wanted o (yielded ops a.tmps) = true) (hd : ∀ c, o.op ≠ .defer c) (hr : (execOp a.eval o).run P w = .ok .recover w')
    {v : Value} {cs' : List Frame} (hrec : recoverD cs = some (v, cs') ∨ (recoverD cs = none ∧ v = .nilIface ∧ cs' = cs)) :
    step P (lone (b.atR a (.inRegion ops (i :: rest) :: k)) cs w) = .next (lone (b.atR (a.put o.dst v) (.inRegion ops rest :: k)) cs' w') := by
  have hg := stepGR_op (P := P) (b := b) (k := k) (cs := cs) (w := w) (rest := rest) ho hw
  rw [Oper.semAt_eq _ _ _ hd] at hg
  have hfin : ∀ v, (b.atR a (.inRegion ops (i :: rest) :: k)).finish v = b.atR (a.put o.dst v) (.inRegion ops rest :: k) := by intro v; rw [Frame.finish_atR, ho]; rfl
  have htr : tryRecover (b.atR a (.inRegion ops (i :: rest) :: k)) cs = recoverD cs := tryRecover_deferred (fr := b.atR a (.inRegion ops (i :: rest) :: k)) hk cs
  have hro : (b.atR a (.inRegion ops (i :: rest) :: k)).roundOf = none := hb
  refine step_lone_go ?_
  rw [hg]
  rcases hrec with h | ⟨h, rfl, rfl⟩
  · simp [stepG.apply, hr, hro, htr, h, hfin]
  · simp [stepG.apply, hr, hro, htr, h, hfin]

theorem run_callFunc {f : Nat} (h : FnThere P f) (args : Array Value) : (callFunc f args).run P w = .ok (.enter f args) w := by
  obtain ⟨fn, hf, hb, hn⟩ := h
  have hb' : fn.body.isNone = false := by cases hx : fn.body <;> simp_all
  simp only [callFunc, Sem.run_bind, run_program, Result.andThen_ok, hf, hn, hb', Bool.false_eq_true, if_false, Sem.run_pure]
theorem callVal_sound {lo : Lo} (hlo : LoSound P lo) {f : LV} {fv : Value} {vs : List LV} {xs : List Value} {kc : KC} (hs : Sim P φ H w) (hf : Rel φ f fv) (hvs : Rels φ vs xs) (h : callVal f vs lo H kc = true) :
    ∃ nx fr, (do let d ← Deferred.ofValue fv xs.toArray; invoke d.target d.args : Sem Next).run P w = .ok nx w ∧ EnterOf P nx fr ∧ ∀ c cs, CallerLands P φ H w c cs (lone fr (c :: cs) w) kc := by
  cases hf with
  | func g hcaps =>
    rename_i caps cvs
    have h' : lo.cl g (vs ++ caps) H .none kc = true := h
    have hc := hlo.cl g (vs ++ caps) (xs ++ cvs) φ H w .none .normal
    have hth := (hc [] kc h' hs (hvs.append hcaps) (.none rfl rfl)).1
    refine ⟨_, _, ?_, .enter g.idx (xs ++ cvs).toArray, fun c cs => caller_of_call (hc (c :: cs) kc h' hs (hvs.append hcaps) (.none rfl rfl)).2⟩
    simp [Deferred.ofValue, invoke, run_callFunc hth]
  | mfunc g hfirst hcaps =>
    rename_i first caps fvs cvs
    have h' : lo.cl g (first ++ vs ++ caps) H .none kc = true := h
    have hc := hlo.cl g (first ++ vs ++ caps) (fvs ++ xs ++ cvs) φ H w .none .normal
    have hth := (hc [] kc h' hs ((hfirst.append hvs).append hcaps) (.none rfl rfl)).1
    refine ⟨_, _, ?_, .enter g.idx (fvs ++ xs ++ cvs).toArray, fun c cs => caller_of_call (hc (c :: cs) kc h' hs ((hfirst.append hvs).append hcaps) (.none rfl rfl)).2⟩
    simp [Deferred.ofValue, invoke, run_callFunc hth]
  | yld hφ =>
    have h' : callYld _ vs lo H kc = true := h
    obtain ⟨fn, tmps, assign, body, h1, h2⟩ := callYld_sound hlo hs hvs hφ h'
    refine ⟨_, _, ?_, .round _ fn tmps assign body, h2⟩
    simp [Deferred.ofValue, invoke, h1]
  | _ => cases h
end
end Go.LX

/- LX, part 27: plain regions. -/
namespace Go.LX
section
variable {P : Program} {φ : Phi} {H : Heap} {w : World} {nt : Nat} {b : Frame} {T : Trie LV} {D : List LDef} {u : Pan} {a : Act} {k : List Item} {cs : List Frame} {ops : Array Oper} {i : Nat} {rest : List Nat} {o : Oper} {lk : LCode} {lo : Lo} {kk : K}

/-- what is written -/
theorem FS.put (h : FS P φ nt b T D u a cs H w) {dst : Option Nat} (hd : dstOk nt dst = true) {x : LV} {v : Value} (hr : Rel φ x v) : FS P φ nt b (putD T (dstOf dst) x) D u (a.put dst v) cs H w := by
  cases dst with
  | none => exact h
  | some d =>
    have hlt : d < nt := by simpa [dstOk] using hd
    exact ⟨h.sim, h.tmps.put (Nat.lt_of_lt_of_le hlt h.size) hr, by simpa [Act.put] using h.size, h.defs, h.up, h.there⟩
theorem FS.step (h : FS P φ nt b T D u a cs H w) {φ' : Phi} {H' : Heap} {w' : World} (hs : Stp P φ H w φ' H' w') : FS P φ' nt b T D u a cs H' w' :=
  ⟨hs.sim, h.tmps.mono hs.le, h.size, h.defs.mono hs.le, h.up.mono hs.le, h.there⟩
theorem rel_undef : Rel φ unitLV undef := .tup .nil
theorem compOp_defer {x : Oper} {c : Call} (h : x.op = .defer c) {l : LOp} (hc : compOp P nt x = some l) : ∃ f xs, l = .c (.dfr f xs) := by
  unfold compOp at hc
  rw [h] at hc
  simp only at hc
  split at hc
  · simp only [Option.map_eq_some_iff] at hc
    obtain ⟨f, _, e⟩ := hc
    exact ⟨f, _, e.symm⟩
  · cases hc
theorem not_defer_p {po : POp} (hc : compOp P nt o = some (.p po)) : ∀ c, o.op ≠ .defer c := fun c h => by obtain ⟨_, _, e⟩ := compOp_defer h hc; cases e
theorem not_defer_m {mo : MOp} (hc : compOp P nt o = some (.m mo)) : ∀ c, o.op ≠ .defer c := fun c h => by obtain ⟨_, _, e⟩ := compOp_defer h hc; cases e
/-- what an operation that calls comes from -/
inductive COpOf (P : Program) (nt : Nat) (o : Oper) : COp → Prop
  | callF {c : Call} {f : Nat} {xs : List LOpd} (ho : o.op = .call c) (hc : c.callee = .value (.func f)) (hx : opds nt c.args.toList = some xs) : COpOf P nt o (.callF (posOf f) xs)
  | callV {c : Call} {fo : Operand} {f : LOpd} {xs : List LOpd} (ho : o.op = .call c) (hc : c.callee = .value fo) (hf : opd nt fo = some f) (hx : opds nt c.args.toList = some xs) : COpOf P nt o (.callV f xs)
  | dfr {c : Call} {fo : Operand} {f : LOpd} {xs : List LOpd} (ho : o.op = .defer c) (hc : c.callee = .value fo) (hf : opd nt fo = some f) (hx : opds nt c.args.toList = some xs) : COpOf P nt o (.dfr f xs)
  | recover {c : Call} (ho : o.op = .call c) (hc : c.callee = .builtin .recover) : COpOf P nt o .recover
  | panic {x : Operand} {y : LOpd} (ho : o.op = .panic x) (hx : opd nt x = some y) : COpOf P nt o (.panic y)
  | next {x : Operand} {y : LOpd} (ho : o.op = .next x false) (hx : opd nt x = some y) : COpOf P nt o (.next y)
theorem nm1 {f : LOpd → MOp} {x : Operand} {co : COp} (h : m1 nt f x = some (.c co)) : False := by obtain ⟨_, _, e⟩ := m1_some h; cases e
theorem nm2 {f : LOpd → LOpd → MOp} {x y : Operand} {co : COp} (h : m2 nt f x y = some (.c co)) : False := by obtain ⟨_, _, _, _, e⟩ := m2_some h; cases e
theorem nm3 {f : LOpd → LOpd → LOpd → MOp} {x y z : Operand} {co : COp} (h : m3 nt f x y z = some (.c co)) : False := by obtain ⟨_, _, _, _, _, _, e⟩ := m3_some h; cases e
theorem nq1 {f : LOpd → POp} {x : Operand} {co : COp} (h : p1 nt f x = some (.c co)) : False := by obtain ⟨_, _, e⟩ := p1_some h; cases e
theorem nq2 {f : LOpd → LOpd → POp} {x y : Operand} {co : COp} (h : p2 nt f x y = some (.c co)) : False := by obtain ⟨_, _, _, _, e⟩ := p2_some h; cases e
theorem nq0 {α : Type} {f : α → POp} {x : Option α} {co : COp} (h : (x.map fun a => LOp.p (f a)) = some (.c co)) : False := by
  simp only [Option.map_eq_some_iff] at h; obtain ⟨_, _, e⟩ := h; cases e
theorem nm0 {α : Type} {f : α → MOp} {x : Option α} {co : COp} (h : (x.map fun a => LOp.m (f a)) = some (.c co)) : False := by
  simp only [Option.map_eq_some_iff] at h; obtain ⟨_, _, e⟩ := h; cases e
theorem compBuild_c {t : TypeId} {ps : List (Nat × Operand)} {co : COp} (h : compBuild P nt t ps = some (.c co)) : False := by
  unfold compBuild at h
  split at h
  · split at h
    · exact nq0 h
    · cases h
  · split at h
    · exact nq0 h
    · cases h
  · cases h
theorem compBin_c {op : BinOp} {t : TypeId} {a b : Operand} {co : COp} (h : compBin P nt op t a b = some (.c co)) : False := by
  unfold compBin at h
  split at h <;> first | exact nq2 h | (cases h; done) | (split at h <;> first | exact nq2 h | (cases h; done))
theorem compSlice_c {t : TypeId} {a : Operand} {lo hi : Option Operand} {co : COp} (h : compSlice P nt t a lo hi = some (.c co)) : False := by
  unfold compSlice at h
  split at h <;> first | exact nq0 h | (cases h; done) | (split at h <;> first | exact nq0 h | (cases h; done))
theorem compBuiltin_c {b : Builtin} {xs : List Operand} {ts : List TypeId} {co : COp} (hc : compBuiltin P nt b xs ts = some (.c co)) : b = .recover ∧ co = .recover := by
  unfold compBuiltin at hc
  split at hc
  all_goals first | (cases hc; exact ⟨rfl, rfl⟩) | (exfalso; repeat' (first | (cases hc; done) | exact (nq1 hc).elim | exact (nq2 hc).elim | exact (nq0 hc).elim | exact (nm0 hc).elim | exact (nm1 hc).elim | exact (nm2 hc).elim | exact (nm3 hc).elim | split at hc))
theorem copOf {co : COp} (hc : compOp P nt o = some (.c co)) : COpOf P nt o co := by
  unfold compOp at hc
  split at hc <;> first | (cases hc; done) | exact (nq1 hc).elim | exact (nq2 hc).elim | exact (nm1 hc).elim | exact (nm2 hc).elim | exact (nm3 hc).elim | exact (nm0 hc).elim | exact (compBuild_c hc).elim | exact (compBin_c hc).elim | exact (compSlice_c hc).elim | skip
  all_goals rename_i ho
  iterate 17 (· exfalso; repeat' (first | (cases hc; done) | exact (nq1 hc).elim | exact (nq2 hc).elim | exact (nq0 hc).elim | exact (nm0 hc).elim | exact (nm1 hc).elim | exact (nm2 hc).elim | exact (nm3 hc).elim | split at hc))
  · rename_i x
    simp only [Option.map_eq_some_iff] at hc
    obtain ⟨y, hy, e⟩ := hc
    cases e
    exact .next ho hy
  · exfalso; repeat' (first | (cases hc; done) | exact (nq1 hc).elim | exact (nq2 hc).elim | exact (nq0 hc).elim | exact (nm0 hc).elim | exact (nm1 hc).elim | exact (nm2 hc).elim | exact (nm3 hc).elim | split at hc)
  · rename_i x
    simp only [Option.map_eq_some_iff] at hc
    obtain ⟨y, hy, e⟩ := hc
    cases e
    exact .panic ho hy
  · rename_i c
    split at hc
    · rename_i f xs h1 h2
      simp only [Option.map_eq_some_iff] at hc
      obtain ⟨y, hy, e⟩ := hc
      cases e
      exact .dfr ho h1 hy h2
    · cases hc
  · rename_i c
    split at hc
    · rename_i f h1
      simp only [Option.map_eq_some_iff] at hc
      obtain ⟨y, hy, e⟩ := hc
      cases e
      exact .callF ho h1 hy
    · rename_i f h1
      split at hc
      · rename_i y xs h2 h3
        cases hc
        exact .callV ho h1 h2 h3
      · cases hc
    · rename_i bb h1
      obtain ⟨rfl, rfl⟩ := compBuiltin_c hc
      exact .recover ho h1
    · cases hc
end
end Go.LX

/- LX, part 28: one operation of a plain region; a plain region. -/
namespace Go.LX
section
variable {P : Program} {φ : Phi} {H : Heap} {w : World} {nt : Nat} {b : Frame} {T : Trie LV} {D : List LDef} {u : Pan} {a : Act} {k : List Item} {cs : List Frame} {ops : Array Oper} {i : Nat} {rest : List Nat} {o : Oper} {lk : LCode} {lo : Lo} {kk : K}

theorem execOp_callV {c : Call} {fo : Operand} (ho : o.op = .call c) (hc : c.callee = .value fo) (ρ : Operand → Value) : execOp ρ o = (do let d ← Deferred.ofValue (ρ fo) (c.args.toList.map ρ).toArray; invoke d.target d.args) := by
  have : c.args.map ρ = (c.args.toList.map ρ).toArray := by rw [← Array.toList_map]
  unfold execOp; simp only [ho, resolve, hc, this]
/-- a call's way on -/
theorem lands_call (hf : FS P φ nt b T D u a cs H w) (hd : dstOk nt o.dst = true) (ho : ops[i]? = some o) (hw : Region.wanted o (yielded ops a.tmps) = true) (hnd : ∀ c, o.op ≠ .defer c) {nx : Next} {fr : Frame} (hr : (execOp a.eval o).run P w = .ok nx w) (he : EnterOf P nx fr) {r : Run}
    (h : CallerLands P φ H w (b.atR a (.inRegion ops (i :: rest) :: k)) cs (lone fr (b.atR a (.inRegion ops (i :: rest) :: k) :: cs) w) (afterCall (dstOf o.dst) r lo T D u kk)) :
    Lands P φ H w nt b cs (lone (b.atR a (.inRegion ops (i :: rest) :: k)) cs w) (.inRegion ops rest :: k) (thenK r lo kk) := by
  have hstep := op_enter (b := b) (k := k) (cs := cs) (rest := rest) ho hw hnd hr he
  obtain ⟨pan, v, H', φ', w', h1, h2, h3⟩ := h
  have hf' := hf.step h2
  cases pan with
  | none =>
    obtain ⟨x, hx, hs⟩ := h3
    rw [Frame.finish_atR, ho] at hs
    exact ⟨.nrm, _, H', D, u, φ', _, cs, w', h1, h2, hf'.put hd hx, .refl _ _, .nrm (.head hstep hs)⟩
  | some e =>
    obtain ⟨x, hx, hs⟩ := h3
    rw [Frame.raise_atR] at hs
    exact ⟨.pan e, _, H', D, u, φ', _, cs, w', h1, h2, hf', .refl _ _, .pan _ hx (.head hstep hs)⟩
theorem opds_list (hT : TRel φ T a.tmps) {xs : List Operand} {los : List LOpd} {vs : List LV} (h : opds nt xs = some los) (hv : getOs T los = some vs) : Rels φ vs (xs.map a.eval) :=
  (opdOk_of hT xs).list (fun _ h => h) h hv
theorem opd_one (hT : TRel φ T a.tmps) {x : Operand} {l : LOpd} {v : LV} (h : opd nt x = some l) (hv : getO l T = some v) : Rel φ v (a.eval x) :=
  (opdOk_of hT [x]).one (by simp) h hv
theorem run_coll : True := trivial

theorem cop_sound (hlo : LoSound P lo) {co : COp} (hc : COpOf P nt o co) (hd : dstOk nt o.dst = true) (ho : ops[i]? = some o) (hw : Region.wanted o (yielded ops a.tmps) = true) (hf : FS P φ nt b T D u a cs H w) {r : Run}
    (h : callOp co (dstOf o.dst) r lo T H D u kk = true) : Lands P φ H w nt b cs (lone (b.atR a (.inRegion ops (i :: rest) :: k)) cs w) (.inRegion ops rest :: k) (thenK r lo kk) := by
  cases hc with
  | callF hop hcal hx =>
    rename_i c f xs
    have h' : (bb (getOs T xs) fun vs => lo.cl (posOf f) vs H .none (afterCall (dstOf o.dst) r lo T D u kk)) = true := h
    obtain ⟨vs, hvs, h2⟩ := bb_true.1 h'
    have hrel := opds_list hf.tmps hx hvs
    have h3 : callVal (.func (posOf f) []) vs lo H (afterCall (dstOf o.dst) r lo T D u kk) = true := by
      show lo.cl (posOf f) (vs ++ []) H .none _ = true
      rw [List.append_nil]; exact h2
    have hfv : Rel φ (.func (posOf f) []) (a.eval (.func f)) := by
      have := Rel.func (φ := φ) (posOf f) (caps := []) (cs := []) .nil
      rw [posOf_idx] at this; exact this
    obtain ⟨nx, fr, h4, h5, h6⟩ := callVal_sound hlo hf.sim hfv hrel h3
    exact lands_call hf hd ho hw (fun c' e => by rw [hop] at e; cases e) (by rw [execOp_callV hop hcal]; exact h4) h5 (h6 _ _)
  | callV hop hcal hfo hx =>
    rename_i c fo f xs
    have h' : (bb (getOs T xs) fun vs => bb (getO f T) fun f => callVal f vs lo H (afterCall (dstOf o.dst) r lo T D u kk)) = true := h
    simp only [bb_true] at h'
    obtain ⟨vs, hvs, fv, hfv, h3⟩ := h'
    obtain ⟨nx, fr, h4, h5, h6⟩ := callVal_sound hlo hf.sim (opd_one hf.tmps hfo hfv) (opds_list hf.tmps hx hvs) h3
    exact lands_call hf hd ho hw (fun c' e => by rw [hop] at e; cases e) (by rw [execOp_callV hop hcal]; exact h4) h5 (h6 _ _)
  | dfr hop hcal hfo hx =>
    rename_i c fo f xs
    have h' : (bb (getOs T xs) fun vs => bb (getO f T) fun f => doDfr f vs r lo (putD T (dstOf o.dst) unitLV) H D u kk) = true := h
    simp only [bb_true] at h'
    obtain ⟨vs, hvs, fv, hfv, h3⟩ := h'
    have hrel := opds_list hf.tmps hx hvs
    have hfr := opd_one hf.tmps hfo hfv
    have hargs : c.args.map a.eval = (c.args.toList.map a.eval).toArray := by rw [← Array.toList_map]
    have hro : ∀ {x y : Bool}, isRnd u false y = true → b.roundOf = none ∧ y = true := by
      intro x y hy
      have hup := hf.up
      cases hup with
      | none hk hr => exact ⟨hr, hy⟩
      | rnd hk hr => cases hy
      | dfr hk hr hm =>
        rename_i c cs
        generalize c.mode = md at hm
        cases hm <;> exact ⟨hr, hy⟩
    have fin : ∀ {d : Deferred} {ld : LDef}, DefRel φ ld d → (execOp a.eval o).run P w = .ok (.defer d) w → b.roundOf = none → r lo (putD T (dstOf o.dst) unitLV) H (ld :: D) u kk = true →
        Lands P φ H w nt b cs (lone (b.atR a (.inRegion ops (i :: rest) :: k)) cs w) (.inRegion ops rest :: k) (thenK r lo kk) := by
      intro d ld hdr hrun hb0 hk
      have hf2 : FS P φ nt b T (ld :: D) u { a with defers := d :: a.defers } cs H w := ⟨hf.sim, hf.tmps, hf.size, .cons hdr hf.defs, hf.up, hf.there⟩
      exact Lands.here (u := u) hk (hf2.put hd rel_undef) (.one (op_defer hb0 ho hw hrun))
    generalize heq : a.eval fo = fval at hfr
    cases hfr with
    | func g hcaps =>
      rename_i caps cvs
      have h4 : isRnd u false (r lo (putD T (dstOf o.dst) unitLV) H (.call g (vs ++ caps) :: D) u kk) = true := h3
      obtain ⟨hb0, h5⟩ := hro (x := true) h4
      refine fin (d := { target := .fn (.func g.idx) cvs.toArray, args := #[] ++ (c.args.toList.map a.eval).toArray }) (.call g (by simpa using hrel.append hcaps)) ?_ hb0 h5
      unfold execOp
      simp [hop, resolve, hcal, hargs, heq, Deferred.ofValue]
    | mfunc g hfirst hcaps =>
      rename_i first caps fvs cvs
      have h4 : isRnd u false (r lo (putD T (dstOf o.dst) unitLV) H (.call g (first ++ vs ++ caps) :: D) u kk) = true := h3
      obtain ⟨hb0, h5⟩ := hro (x := true) h4
      refine fin (d := { target := .fn (.func g.idx) cvs.toArray, args := fvs.toArray ++ (c.args.toList.map a.eval).toArray }) (.call g (by simpa using (hfirst.append hrel).append hcaps)) ?_ hb0 h5
      unfold execOp
      simp [hop, resolve, hcal, hargs, heq, Deferred.ofValue]
    | _ => cases h3
  | recover hop hcal =>
    have h' : doRecover (dstOf o.dst) r lo T H D u kk = true := h
    have hex : (execOp a.eval o).run P w = .ok .recover w := by
      unfold execOp
      simp [hop, resolve, hcal, invoke, builtin]
    have hnd : ∀ c, o.op ≠ .defer c := fun c' e => by rw [hop] at e; cases e
    have hup := hf.up
    cases hup with
    | none hk hr => cases h'
    | rnd hk hr => cases h'
    | dfr hk hr hm =>
      rename_i c cs
      generalize hmode : c.mode = md at hm
      cases hm with
      | ret =>
        have h2 : r lo (putD T (dstOf o.dst) .niliface) H D .ret kk = true := h'
        refine Lands.here h2 (hf.put hd .niliface) (.one (op_recover hr hk ho hw hnd hex (.inr ⟨?_, rfl, rfl⟩)))
        simp [recoverD, hmode]
      | pan rc hv =>
        rename_i v x
        cases rc with
        | true => cases h'
        | false =>
          have h2 : r lo (putD T (dstOf o.dst) v) H D (.pan v true) kk = true := h'
          have hst := op_recover (P := P) (b := b) (k := k) (rest := rest) hr hk ho hw hnd hex (v := x) (cs := c :: cs) (cs' := { c with mode := .panicking [{ v := x, recovered := true }] } :: cs) (.inl (by simp [recoverD, hmode]))
          have hf2 : FS P φ nt b T D (.pan v true) a ({ c with mode := .panicking [{ v := x, recovered := true }] } :: cs) H w := ⟨hf.sim, hf.tmps, hf.size, hf.defs, .dfr hk hr (.pan true hv), hf.there⟩
          exact ⟨.nrm, _, H, D, _, φ, _, _, w, h2, .refl hf.sim, hf2.put hd hv, .inr ⟨hk, c, cs, _, rfl, rfl⟩, .nrm (.one hst)⟩
  | panic hop hx =>
    rename_i x y
    have h' : (bb (getO y T) fun x => doPanic x T H D u kk) = true := h
    obtain ⟨v, hv, h2⟩ := bb_true.1 h'
    have hr := opd_one hf.tmps hx hv
    have hnd : ∀ c, o.op ≠ .defer c := fun c' e => by rw [hop] at e; cases e
    cases v with
    | iface t vv =>
      have h3 : kk (.pan (.iface t vv)) T H D u = true := h2
      have hrun : ∃ pv, (execOp a.eval o).run P w = .halt (.panic pv) w ∧ Rel φ (.iface t vv) pv := by
        refine ⟨a.eval x, ?_, hr⟩
        generalize heq : a.eval x = pv at hr
        cases hr
        unfold execOp
        simp [hop, heq, Instr.panic, goPanic]
      obtain ⟨pv, hrun, hpr⟩ := hrun
      exact ⟨.pan _, T, H, D, u, φ, a, cs, w, h3, .refl hf.sim, hf, .refl _ _, .pan _ hpr (.one (op_panic ho hw hnd hrun))⟩
    | _ => cases h2
  | next hop hx =>
    rename_i x y
    have h' : (bb (getO y T) fun x => doNext x (dstOf o.dst) r lo T H D u kk) = true := h
    obtain ⟨v, hv, h2⟩ := bb_true.1 h'
    have hr := opd_one hf.tmps hx hv
    obtain ⟨z, vz, w', H', h3, h4, h5, h6⟩ := next_sound hf.sim hr o.type h2
    have hnd : ∀ c, o.op ≠ .defer c := fun c' e => by rw [hop] at e; cases e
    have hex : (execOp a.eval o).run P w = .ok (.value vz) w' := by
      unfold execOp
      simp [hop, h3]
    exact ⟨.nrm, _, H', D, u, φ, _, cs, w', h6, h5, (hf.step h5).put hd h4, .refl _ _, .nrm (.one (op_value ho hw hnd hex (.inl rfl)))⟩
end
end Go.LX

/- LX, part 29: plain regions. -/
namespace Go.LX
section
variable {P : Program} {φ : Phi} {H : Heap} {w : World} {nt : Nat} {b : Frame} {T : Trie LV} {D : List LDef} {u : Pan} {a : Act} {k : List Item} {cs : List Frame} {ops : Array Oper} {i : Nat} {rest : List Nat} {o : Oper} {lk : LCode} {lo : Lo} {kk : K}

theorem op1_sound (hlo : LoSound P lo) (ho : ops[i]? = some o) (hw : Region.wanted o (yielded ops a.tmps) = true) (hf : FS P φ nt b T D u a cs H w) (h : run (compOp1 P nt o lk) lo T H D u kk = true) :
    Lands P φ H w nt b cs (lone (b.atR a (.inRegion ops (i :: rest) :: k)) cs w) (.inRegion ops rest :: k) (thenK (run lk) lo kk) := by
  unfold compOp1 at h
  split at h
  · rename_i hd
    split at h
    · rename_i po hc
      split at h
      · rename_i d hdst
        have h' : (bb (pureN po T H) fun v => run lk lo (T.put (some v) (posOf d)) H D u kk) = true := h
        obtain ⟨v, hv, h2⟩ := bb_true.1 h'
        obtain ⟨v0, hv0, rfl⟩ := pureN_some hv
        obtain ⟨vv, h3, h4⟩ := pure_sound hc (opdOk_of hf.tmps _) hf.sim hf.sim.facts hv0
        replace h4 := norm_rel hf.sim.facts h4
        have hp := hf.put hd h4
        rw [hdst] at hp
        refine Lands.here h2 hp (.one ?_)
        have := op_value (b := b) (k := k) (cs := cs) (rest := rest) ho hw (not_defer_p hc) h3 (.inl rfl)
        rw [hdst] at this; exact this
      · cases h
    · rename_i mo hc
      have h' : (@Option.rec (LV × Heap) (fun _ => Bool) false (fun p => run lk lo (putD T (dstOf o.dst) p.1) p.2 D u kk) (memOp mo T H)) = true := h
      cases hm : memOp mo T H with
      | none => rw [hm] at h'; cases h'
      | some p =>
        rw [hm] at h'
        obtain ⟨x, H'⟩ := p
        obtain ⟨nx, v, w', φ', h3, h4, h5, h6⟩ := mem_sound hc (opdOk_of hf.tmps _) hf.sim hm
        exact ⟨.nrm, _, H', D, u, φ', _, cs, w', h', h6, (hf.step h6).put hd h5, .refl _ _, .nrm (.one (op_value ho hw (not_defer_m hc) h3 h4))⟩
    · rename_i co hc
      exact cop_sound hlo (copOf hc) hd ho hw hf h
    · cases h
  · cases h

/-- a guard's tmp tells what it yields -/
theorem grd_wanted {t : Pos} {wb : Bool} (hT : TRel φ T a.tmps) (hg : grdOf nt ops o = some (some (t, wb))) {c : LV} (hc : T.get t = some c) {x y : Bool} (h : grdLV c wb x y = true) :
    (Region.wanted o (yielded ops a.tmps) = true ∧ x = true) ∨ (Region.wanted o (yielded ops a.tmps) = false ∧ y = true) := by
  unfold grdOf at hg
  split at hg
  · cases hg
  · rename_i j w' hgd
    split at hg
    · rename_i oj hoj
      split at hg
      · rename_i t' hdst
        split at hg
        · cases hg
          obtain ⟨v, hv, hr⟩ := hT _ _ hc
          rw [posOf_idx] at hv
          have hy : yielded ops a.tmps j = (match (some v : Option Value) with | some (.bool b) => some b | _ => none) := by
            simp only [yielded, hoj, hdst, Option.bind_some, hv]
            rfl
          have hwn : Region.wanted o (yielded ops a.tmps) = (yielded ops a.tmps j == some wb) := by simp only [Region.wanted, hgd]
          cases hr with
          | bool bv =>
            have h' : ib bv (ib wb x y) (ib wb y x) = true := h
            rw [hwn, hy]
            cases bv <;> cases wb <;> simp [ib] at h' ⊢ <;> exact h'
          | tup hvs =>
            rename_i vs xs
            have h' : ib (isNilL vs) y false = true := h
            rw [ib_ff] at h'
            rw [hwn, hy]
            exact .inr ⟨rfl, h'.2⟩
          | _ => cases h
        · cases hg
      · cases hg
    · cases hg
theorem grdS_wanted {t : Pos} {wb : Bool} (hs : Sim P φ H w) (hT : TRel φ T a.tmps) (hg : grdOf nt ops o = some (some (t, wb))) {c : LV} (hc : T.get t = some c) {x y : Heap → Bool} (h : grdS c wb H x y = true) :
    ∃ F, Sim P φ ⟨H.next, H.t, F⟩ w ∧ ((Region.wanted o (yielded ops a.tmps) = true ∧ x ⟨H.next, H.t, F⟩ = true) ∨ (Region.wanted o (yielded ops a.tmps) = false ∧ y ⟨H.next, H.t, F⟩ = true)) := by
  unfold grdOf at hg
  split at hg
  · cases hg
  · rename_i j w' hgd
    split at hg
    · rename_i oj hoj
      split at hg
      · rename_i t' hdst
        split at hg
        · cases hg
          obtain ⟨v, hv, hr⟩ := hT _ _ hc
          rw [posOf_idx] at hv
          have hy : yielded ops a.tmps j = (match (some v : Option Value) with | some (.bool b) => some b | _ => none) := by
            simp only [yielded, hoj, hdst, Option.bind_some, hv]
            rfl
          have hwn : Region.wanted o (yielded ops a.tmps) = (yielded ops a.tmps j == some wb) := by simp only [Region.wanted, hgd]
          cases hr with
          | bool bv =>
            have h' : ib bv (ib wb (x H) (y H)) (ib wb (y H) (x H)) = true := h
            refine ⟨H.fs, hs, ?_⟩
            rw [hwn, hy]
            cases bv <;> cases wb <;> simp [ib] at h' ⊢ <;> exact h'
          | sbool bv he =>
            rename_i e
            have h' : ib wb (splitH e H x y) (splitH e H y x) = true := h
            rw [hwn, hy]
            cases wb with
            | true =>
              obtain ⟨F, h1, h2⟩ := split_way hs he (show splitH e H x y = true from h')
              refine ⟨F, h1, ?_⟩
              cases bv with
              | true => exact .inl ⟨rfl, h2⟩
              | false => exact .inr ⟨rfl, h2⟩
            | false =>
              obtain ⟨F, h1, h2⟩ := split_way hs he (show splitH e H y x = true from h')
              refine ⟨F, h1, ?_⟩
              cases bv with
              | true => exact .inr ⟨rfl, h2⟩
              | false => exact .inl ⟨rfl, h2⟩
          | tup hvs =>
            rename_i vs xs
            have h' : ib (isNilL vs) (y H) false = true := h
            rw [ib_ff] at h'
            rw [hwn, hy]
            exact ⟨H.fs, hs, .inr ⟨rfl, h'.2⟩⟩
          | _ => cases h
        · cases hg
      · cases hg
    · cases hg
theorem grd_none (hg : grdOf nt ops o = some none) (y : Nat → Option Bool) : Region.wanted o y = true := by
  unfold grdOf at hg
  split at hg
  · rename_i h; simp [Region.wanted, h]
  · split at hg
    · split at hg
      · split at hg <;> cases hg
      · cases hg
    · cases hg
theorem thenK_nil {lo : Lo} {K' : K} (o : Out) (T : Trie LV) (H : Heap) (D : List LDef) (u : Pan) : thenK (run .nil) lo K' o T H D u = K' o T H D u := by cases o <;> rfl
theorem thenK_ne {r : Run} {lo : Lo} {K' : K} {o : Out} {T : Trie LV} {H : Heap} {D : List LDef} {u : Pan} (h : o ≠ .nrm) : thenK r lo K' o T H D u = K' o T H D u := by cases o <;> first | rfl | exact absurd rfl h

theorem ops_sound (hlo : LoSound P lo) : ∀ (os : List Oper) (pre : List Oper), ops.toList = pre ++ os → ∀ {T : Trie LV} {H : Heap} {D : List LDef} {u : Pan} {φ : Phi} {a : Act} {cs : List Frame} {w : World}, FS P φ nt b T D u a cs H w →
    run (compOps P nt ops os lk) lo T H D u kk = true → Lands P φ H w nt b cs (lone (b.atR a (.inRegion ops (List.range' pre.length os.length) :: k)) cs w) k (thenK (run lk) lo kk)
  | [], pre, he, T, H, D, u, φ, a, cs, w, hf, h => Lands.here (D := D) (u := u) (T := T) h hf (.one stepR_region_end)
  | o :: os, pre, he, T, H, D, u, φ, a, cs, w, hf, h => by
    have ho : ops[pre.length]? = some o := by rw [← Array.getElem?_toList, he]; simp
    have hnext : ops.toList = (pre ++ [o]) ++ os := by rw [he]; simp
    have hlen : pre.length + 1 = (pre ++ [o]).length := by simp
    have ih := fun {T : Trie LV} {H : Heap} {D : List LDef} {u : Pan} {φ : Phi} {a : Act} {cs : List Frame} {w : World} (hf : FS P φ nt b T D u a cs H w) => ops_sound hlo os (pre ++ [o]) hnext hf
    rw [List.length_cons, List.range'_succ, hlen]
    have hbind' : ∀ {H : Heap}, FS P φ nt b T D u a cs H w → Lands P φ H w nt b cs (lone (b.atR a (.inRegion ops (pre.length :: List.range' (pre ++ [o]).length os.length) :: k)) cs w) (.inRegion ops (List.range' (pre ++ [o]).length os.length) :: k) (thenK (run (compOps P nt ops os lk)) lo kk) →
        Lands P φ H w nt b cs (lone (b.atR a (.inRegion ops (pre.length :: List.range' (pre ++ [o]).length os.length) :: k)) cs w) k (thenK (run lk) lo kk) := fun {_} _ hl =>
      hl.bind (fun _ => rfl) (fun T' H' D' u' φ' a' cs' w' h1 h2 => ih h2 h1) (fun o T' H' D' u' hne h1 => by rw [thenK_ne hne] at h1 ⊢; exact h1)
    have hbind : ∀ {lk' : K}, Lands P φ H w nt b cs (lone (b.atR a (.inRegion ops (pre.length :: List.range' (pre ++ [o]).length os.length) :: k)) cs w) (.inRegion ops (List.range' (pre ++ [o]).length os.length) :: k) (thenK (run (compOps P nt ops os lk)) lo kk) →
        Lands P φ H w nt b cs (lone (b.atR a (.inRegion ops (pre.length :: List.range' (pre ++ [o]).length os.length) :: k)) cs w) k (thenK (run lk) lo kk) := fun hl =>
      hl.bind (fun _ => rfl) (fun T' H' D' u' φ' a' cs' w' h1 h2 => ih h2 h1) (fun o T' H' D' u' hne h1 => by rw [thenK_ne hne] at h1 ⊢; exact h1)
    unfold compOps at h
    split at h
    · rename_i hg
      exact hbind (lk' := kk) (op1_sound hlo ho (grd_none hg _) hf h)
    · rename_i t wb hg
      split at h
      case isFalse => cases h
      rename_i hd
      have h' : (bb (T.get t) fun c => grdS c wb H (fun H => run (compOp1 P nt o .nil) lo T H D u (thenK (run (compOps P nt ops os lk)) lo kk)) (fun H => run (compOps P nt ops os lk) lo (putD T (dstOf o.dst) unitLV) H D u kk)) = true := h
      obtain ⟨c, hc, h2⟩ := bb_true.1 h'
      obtain ⟨F, hF, h2⟩ := grdS_wanted hf.sim hf.tmps hg hc h2
      refine Lands.of_asm (F := F) ?_
      rcases h2 with ⟨hw, h3⟩ | ⟨hw, h3⟩
      · exact hbind' (hf.asm hF) ((op1_sound hlo ho hw (hf.asm hF) h3).congr thenK_nil)
      · refine hbind' (hf.asm hF) ?_
        exact Lands.here h3 ((hf.asm hF).put hd rel_undef) (.one (op_skip ho hw))
    · cases h
end
end Go.LX

/- LX, part 30: code, but for the regions that draw their order. -/
namespace Go.LX
section
variable {P : Program} {φ : Phi} {H : Heap} {w : World}

/-- an object that is given up -/
theorem Sim.drop (h : Sim P φ H w) {p0 : Pos} {o0 : LO} {r : Nat} {x : Obj} (hp0 : H.t.get p0 = some o0) (hφ : φ p0 = some (.obj r)) :
    Stp P φ H w φ (H.drop p0) { w with heap := w.heap.setIfInBounds r x } := by
  have hget : ∀ q o, (H.drop p0).t.get q = some o → q ≠ p0 ∧ H.t.get q = some o := by
    intro q o hq
    have : (H.drop p0).t.get q = if q = p0 then none else H.t.get q := Trie.get_put _ _ _ _
    rw [this] at hq
    by_cases e : q = p0
    · rw [if_pos e] at hq; cases hq
    · rw [if_neg e] at hq; exact ⟨e, hq⟩
  have hpB : physB φ p0 = some r := by simp [physB, hφ, Phys.block]
  have hk : ∀ B, B ≠ r → ({ w with heap := w.heap.setIfInBounds r x } : World).heap[B]? = w.heap[B]? := fun B hB => by
    simp only []; rw [Array.getElem?_setIfInBounds_ne (Ne.symm hB)]
  refine ⟨⟨h.fresh, fun q o hq => ?_, fun p q o o' B hp hq hB hB' => ?_, h.facts⟩, φ.le_refl, fun _ _ => rfl, ⟨rfl, rfl, rfl, by simp, fun B hB hn => hk B fun e => hn p0 o0 hp0 (e ▸ hpB)⟩, fun p o B hp hB => ?_, Nat.le_refl _⟩
  · obtain ⟨hne, hq'⟩ := hget q o hq
    exact (h.blk q o hq').mono φ.le_refl (fun B hB => hk B fun e => hne (h.sep q p0 o o0 B hq' hp0 hB (e ▸ hpB))) (by simp)
  · exact h.sep p q o o' B (hget p o hp).2 (hget q o' hq).2 hB hB'
  · exact .inr ⟨p, o, (hget p o hp).2, hB⟩

section
variable {b : Frame} {a : Act} {k : List Item} {cs : List Frame} {f : Operand} {params : Array Tmp} {assign body : Code}
/-- the frame that waits for a range over a function -/
def rngFrame (b : Frame) (a : Act) (k : List Item) (w : World) : Frame := b.atR { a with defers := { target := .collected w.heap.size, args := #[] } :: a.defers } (.inRangeFunc (w.heap.size + 1) :: k)
def rngWorld (b : Frame) (a : Act) (params : Array Tmp) (assign body : Code) (w : World) : World :=
  (w.alloc (.deferred (some []))).alloc (.loop { state := .ready, pending := none, fn := b.fn, tmps := a.tmps, params, assign, body, defers := w.heap.size })
theorem step_rng (hb : b.roundOf = none) {nx : Next} {fr : Frame}
    (hr : (do let d ← Deferred.ofValue (a.eval f) #[.func (.yield (w.heap.size + 1)) #[] #[]]; invoke d.target d.args : Sem Next).run P (rngWorld b a params assign body w) = .ok nx (rngWorld b a params assign body w)) (he : EnterOf P nx fr) :
    step P (lone (b.atR a (.code (.rangeFunc f params assign body) :: k)) cs w) = .next (lone fr (rngFrame b a k w :: cs) (rngWorld b a params assign body w)) := by
  have hev : ∀ todo ds, Frame.eval { fn := b.fn, tmps := a.tmps, todo := todo, defers := ds, mode := .run, kind := b.kind, roundOf := none } f = a.eval f := fun _ _ => by cases f <;> rfl
  have hen : (Instr.enterLoop b.fn a.tmps params assign body none).run P w = .ok (w.heap.size + 1, [{ target := .collected w.heap.size, args := #[] }]) (rngWorld b a params assign body w) := by
    simp [Instr.enterLoop, rngWorld]
  refine step_lone_go ?_
  have hev2 : ∀ x, Frame.eval { fn := b.fn, tmps := a.tmps, todo := .inRangeFunc (w.heap.size + 1) :: k, defers := { target := .collected w.heap.size, args := #[] } :: a.defers, mode := .run, kind := b.kind, roundOf := none } x = a.eval x := fun x => by cases x <;> rfl
  have hres : ∀ (ρ : Operand → Value), (∀ x, ρ x = a.eval x) → (do let d ← resolve ρ { callee := .value f, args := #[.const (.func (.yield (w.heap.size + 1)) #[] #[])], argTypes := #[] } 0; invoke d.target d.args : Sem Next) = (do let d ← Deferred.ofValue (a.eval f) #[.func (.yield (w.heap.size + 1)) #[] #[]]; invoke d.target d.args) := by
    intro ρ hρ
    have : ρ = a.eval := funext hρ
    subst this
    have hm : (#[Operand.const (.func (.yield (w.heap.size + 1)) #[] #[])] : Array Operand).map a.eval = #[.func (.yield (w.heap.size + 1)) #[] #[]] := by simp [Act.eval]
    simp only [resolve, hm]
  simp only [stepG, stepG.exec, Frame.atR, hb, Sem.runT_eq, hen, GStep.bare_after, rngFrame, List.cons_append, List.nil_append]
  rw [hres _ hev2]
  cases he <;> simp [stepG.apply, hr]
theorem run_endLoop {rl : Nat} {L : Loop} (h : w.heap[rl]? = some (.loop L)) (hb : L.state ≠ .busy) :
    (Instr.endLoop rl).run P w = .ok L.pending { w with heap := w.heap.setIfInBounds rl (.loop { L with state := .exhausted }) } := by
  simp [Instr.endLoop, run_getLoop h, run_setObj (P := P) h (by simp), hb]
theorem step_endRng {rl : Nat} {j : Option Code} {w' : World} (hr : (Instr.endLoop rl).run P w = .ok j w') :
    step P (lone (b.atR a (.endRangeFunc rl :: k)) cs w) = .next (lone (b.atR a ((j.map Item.code).toList ++ k)) cs w') :=
  step_lone_go (by simp [stepG, stepG.exec, Frame.atR, Sem.runT_eq, hr])
end

section
variable {nt : Nat} {b : Frame} {lo : Lo} {kk : K}
/-- what is asked of the regions that draw their order -/
def DrwSound (P : Program) : Prop := ∀ (lo : Lo), LoSound P lo → ∀ (nt : Nat) (id : Nat) (ops : Array Oper) (lk : LCode) (T : Trie LV) (H : Heap) (D : List LDef) (u : Pan) (kk : K) (φ : Phi) (b : Frame) (a : Act) (cs : List Frame) (w : World) (k : List Item),
  FS P φ nt b T D u a cs H w → run (compDrw P nt ops lk) lo T H D u kk = true → Lands P φ H w nt b cs (lone (b.atR a (.code (.region id ops true) :: k)) cs w) k (thenK (run lk) lo kk)

theorem rng_sound (hlo : LoSound P lo) {r : Run} {T : Trie LV} {D : List LDef} {u : Pan} {a : Act} {cs : List Frame} {f : Operand} {fl : LOpd} {params : Array Tmp} {assign body : Code} {k : List Item} (hf : FS P φ nt b T D u a cs H w) (hp : ∀ p ∈ params.toList, p < nt) {fv : LV} (hfv : Rel φ fv (a.eval f))
    (h : doRng fv (params.toList.map posOf) (comp P nt assign .nil) (comp P nt body .nil) r lo T H D u kk = true) :
    Lands P φ H w nt b cs (lone (b.atR a (.code (.rangeFunc f params assign body) :: k)) cs w) k (thenK r lo kk) := by
  generalize heq : a.eval f = fval at hfv
  cases hfv with
  | func g hcaps =>
    rename_i caps cvs
    have h' : isRnd u false (lo.cl g (.yld H.next.succ :: caps) ((H.new .defr).new (.loop 0 .nrm T (params.toList.map posOf) (comp P nt assign .nil) (comp P nt body .nil))) .none (rngK H.next.succ r lo T (.coll H.next :: D) u kk)) = true := h
    have hro : b.roundOf = none ∧ lo.cl g (.yld H.next.succ :: caps) ((H.new .defr).new (.loop 0 .nrm T (params.toList.map posOf) (comp P nt assign .nil) (comp P nt body .nil))) .none (rngK H.next.succ r lo T (.coll H.next :: D) u kk) = true := by
      have hup := hf.up
      cases hup with
      | none hk hr => exact ⟨hr, h'⟩
      | rnd hk hr => cases h'
      | dfr hk hr hm =>
        rename_i c cs
        generalize c.mode = md at hm
        cases hm <;> exact ⟨hr, h'⟩
    obtain ⟨hb0, hcl⟩ := hro
    -- the two objects
    have n1 := new_obj (P := P) (o := .defr) hf.sim (plain_alloc w (.deferred (some []))) rfl .defr
    have hf1 := hf.step n1
    have n2 := new_obj (P := P) (o := .loop 0 .nrm T (params.toList.map posOf) (comp P nt assign .nil) (comp P nt body .nil)) n1.sim (plain_alloc _ (.loop { state := .ready, pending := none, fn := b.fn, tmps := a.tmps, params, assign, body, defers := w.heap.size })) rfl
      (.loop ⟨trivial, rfl, hf1.tmps, rfl, hf.there, nt, hf.size, hp, rfl, rfl⟩)
    have hst := n1.trans n2
    generalize hφ2 : ((φ.set H.next (.obj w.heap.size)).set (H.new .defr).next (.obj (w.alloc (.deferred (some []))).heap.size)) = φ2 at n2 hst
    have hsz : (w.alloc (.deferred (some []))).heap.size = w.heap.size + 1 := by show (w.heap.push (Obj.deferred (some []))).size = _; rw [Array.size_push]
    have hl2 : φ2 H.next.succ = some (.obj (w.heap.size + 1)) := by rw [← hφ2, ← hsz]; exact Phi.set_same _ _ _
    have hd2 : φ2 H.next = some (.obj w.heap.size) := n2.le _ _ (Phi.set_same _ _ _)
    have hrels : Rels φ2 (.yld H.next.succ :: caps) (.func (.yield (w.heap.size + 1)) #[] #[] :: cvs) := .cons (.yld hl2) (hcaps.mono hst.le)
    have hc := fun cs kc hk => hlo.cl g (.yld H.next.succ :: caps) _ φ2 _ _ .none .normal cs kc hk n2.sim hrels (.none rfl rfl)
    have hth := (hc [] _ hcl).1
    have hw2 : (w.alloc (.deferred (some []))).alloc (.loop { state := .ready, pending := none, fn := b.fn, tmps := a.tmps, params, assign, body, defers := w.heap.size }) = rngWorld b a params assign body w := rfl
    have hcaller := caller_of_call (hc (rngFrame b a k w :: cs) _ hcl).2
    rw [hw2] at hcaller hst
    have hstep := step_rng (P := P) (b := b) (a := a) (k := k) (cs := cs) (f := f) (params := params) (assign := assign) (body := body) (w := w) hb0 (nx := .enter g.idx (Value.func (.yield (w.heap.size + 1)) #[] #[] :: cvs).toArray)
      (by rw [heq]; simp [Deferred.ofValue, invoke, run_callFunc hth]) (.enter _ _)
    obtain ⟨pan, v, H', φ', w', h1, h2, h3⟩ := hcaller
    have hst' := hst.trans h2
    have hf2 := hf.step hst'
    have hfd : FS P φ' nt b T (.coll H.next :: D) u { a with defers := { target := .collected w.heap.size, args := #[] } :: a.defers } cs H' w' := ⟨hf2.sim, hf2.tmps, hf2.size, .cons (.coll (h2.le _ _ hd2)) hf2.defs, hf2.up, hf2.there⟩
    cases pan with
    | some e =>
      obtain ⟨x, hx, hs⟩ := h3
      have h4 : kk (.pan e) T H' (.coll H.next :: D) u = true := h1
      rw [rngFrame, Frame.raise_atR] at hs
      exact ⟨.pan e, T, H', _, u, φ', _, cs, w', h4, hst', hfd, .refl _ _, .pan _ hx (.head hstep hs)⟩
    | none =>
      obtain ⟨x, hx, hs⟩ := h3
      have hs' : Steps P (lone (b.atR a (.code (.rangeFunc f params assign body) :: k)) cs w) (lone (b.atR { a with defers := { target := .collected w.heap.size, args := #[] } :: a.defers } (.endRangeFunc (w.heap.size + 1) :: k)) cs w') := .head hstep hs
      unfold rngK at h1
      simp only [bb_true] at h1
      obtain ⟨o, ho, q, hq, h4⟩ := h1
      obtain ⟨rl, L, hφl, hheap, hL⟩ := h2.sim.loop ho hq
      rw [h2.le _ _ hl2] at hφl; cases hφl
      rw [ib_eq] at h4
      split at h4
      · cases h4
      · rename_i hnb
        have hnb : q.1 ≠ 1 := fun e => hnb (beq_iff.2 e)
        have hbusy : L.state ≠ .busy := by
          intro e
          have := hL.st
          rw [e] at this
          cases hq1 : q.1 with
          | zero => rw [hq1] at this; exact this
          | succ n => cases n with
            | zero => exact hnb (by rw [hq1])
            | succ n => rw [hq1] at this; cases n <;> exact this
        have hend := run_endLoop (P := P) hheap hbusy
        have hdrop := h2.sim.drop (x := .loop { L with state := .exhausted }) ho (h2.le _ _ hl2)
        have hpend := hL.pending
        have hs2 := hs'.trans (.one (step_endRng (b := b) (a := { a with defers := { target := .collected w.heap.size, args := #[] } :: a.defers }) (k := k) (cs := cs) hend))
        have hfd2 := hfd.step hdrop
        have hst3 := hst'.trans hdrop
        generalize ({ w' with heap := w'.heap.setIfInBounds (w.heap.size + 1) (.loop { L with state := .exhausted }) } : World) = wE at hs2 hfd2 hst3
        rw [hpend] at hs2
        generalize q.2.1 = oo at h4 hs2
        cases oo with
        | nrm => exact ⟨.nrm, T, _, _, u, φ', _, cs, _, h4, hst3, hfd2, .refl _ _, .nrm hs2⟩
        | exit id => exact ⟨.exit id, T, _, _, u, φ', _, cs, _, h4, hst3, hfd2, .refl _ _, .exit id k rfl hs2⟩
        | ret => exact ⟨.ret, T, _, _, u, φ', _, cs, _, h4, hst3, hfd2, .refl _ _, .ret k hs2⟩
        | pan v => cases h4
  | _ => cases h
end
end
end Go.LX

/- LX, part 31: code; what is deferred; functions. -/
namespace Go.LX
section
variable {P : Program}

theorem noNrm_then {r : Run} {lo : Lo} {kk : K} (o : Out) (T : Trie LV) (H : Heap) (D : List LDef) (u : Pan) (h : noNrm kk o T H D u = true) : thenK r lo kk o T H D u = true := by
  cases o with
  | nrm => cases h
  | _ => exact h
/-- a loop's way, from its body on -/
theorem loop_way {lo : Lo} (hlo : LoSound P lo) {nt : Nat} {c : Code} {kk : K} {φ : Phi} {b : Frame} {cs : List Frame} {H : Heap} {w : World} {k : List Item} {m : Machine}
    (hl : Lands P φ H w nt b cs m (.inLoop c :: k) (loopK (comp P nt c .nil) lo kk)) : Lands P φ H w nt b cs m k (noNrm kk) := by
  refine Lands.bind (x := .inLoop c) (fun _ => rfl) hl (fun T' H' D' u' φ' a' cs' w' h1 h2 => ?_) (fun o T' H' D' u' hne h1 => by cases o <;> first | exact h1 | exact absurd rfl hne)
  exact hlo.lp nt c T' H' D' u' kk φ' b a' cs' w' k h1 h2
theorem code_sound (hdrw : DrwSound P) {lo : Lo} (hlo : LoSound P lo) {nt : Nat} : ∀ (c : Code) {lk : LCode} {T : Trie LV} {H : Heap} {D : List LDef} {u : Pan} {kk : K} {φ : Phi} {b : Frame} {a : Act} {cs : List Frame} {w : World} {k : List Item},
    FS P φ nt b T D u a cs H w → run (comp P nt c lk) lo T H D u kk = true → Lands P φ H w nt b cs (lone (b.atR a (.code c :: k)) cs w) k (thenK (run lk) lo kk)
  | .skip, lk, T, H, D, u, kk, φ, b, a, cs, w, k, hf, h => Lands.here (T := T) (D := D) (u := u) h hf (.one stepR_skip)
  | .region id ops draw, lk, T, H, D, u, kk, φ, b, a, cs, w, k, hf, h => by
    cases draw with
    | true => exact hdrw lo hlo nt id ops lk T H D u kk φ b a cs w k hf h
    | false =>
      have h' : run (compOps P nt ops ops.toList lk) lo T H D u kk = true := h
      have := ops_sound (k := k) hlo ops.toList [] rfl hf h'
      rw [List.length_nil, Array.length_toList, ← List.range_eq_range'] at this
      exact this.of_steps (.one stepR_region)
  | .seq x y, lk, T, H, D, u, kk, φ, b, a, cs, w, k, hf, h => by
    have h' : run (comp P nt x (comp P nt y lk)) lo T H D u kk = true := h
    refine (Lands.bind (x := .code y) (fun _ => rfl) (code_sound hdrw hlo x (k := .code y :: k) hf h') (fun T' H' D' u' φ' a' cs' w' h1 h2 => ?_) (fun o T' H' D' u' hne h1 => by rw [thenK_ne hne] at h1 ⊢; exact h1)).of_steps (.one stepR_seq)
    exact code_sound hdrw hlo y h2 h1
  | .cond c x y, lk, T, H, D, u, kk, φ, b, a, cs, w, k, hf, h => by
    unfold comp at h
    split at h
    · rename_i lc hc
      have h' : (bb (getO lc T) fun c => condLV c H (fun H => run (comp P nt x .nil) lo T H D u (thenK (run lk) lo kk)) (fun H => run (comp P nt y .nil) lo T H D u (thenK (run lk) lo kk))) = true := h
      obtain ⟨v, hv, h2⟩ := bb_true.1 h'
      have hr := opd_one hf.tmps hc hv
      cases v with
      | bool bv =>
        have e := rel_bool hr
        have h3 : ib bv (run (comp P nt x .nil) lo T H D u (thenK (run lk) lo kk)) (run (comp P nt y .nil) lo T H D u (thenK (run lk) lo kk)) = true := h2
        cases bv with
        | true => exact ((code_sound hdrw hlo x hf h3).congr thenK_nil).of_steps (.one (stepR_cond e))
        | false => exact ((code_sound hdrw hlo y hf h3).congr thenK_nil).of_steps (.one (stepR_cond e))
      | sbool se =>
        generalize hgv : a.eval c = vv at hr
        cases hr with
        | sbool bv he =>
          obtain ⟨F, hF, h3⟩ := split_way hf.sim he (show splitH se H (fun H => run (comp P nt x .nil) lo T H D u (thenK (run lk) lo kk)) (fun H => run (comp P nt y .nil) lo T H D u (thenK (run lk) lo kk)) = true from h2)
          refine Lands.of_asm (F := F) ?_
          cases bv with
          | true => exact ((code_sound hdrw hlo x (hf.asm hF) h3).congr thenK_nil).of_steps (.one (stepR_cond hgv))
          | false => exact ((code_sound hdrw hlo y (hf.asm hF) h3).congr thenK_nil).of_steps (.one (stepR_cond hgv))
      | _ => cases h2
    · cases h
  | .block id c, lk, T, H, D, u, kk, φ, b, a, cs, w, k, hf, h => by
    have h' : run (comp P nt c .nil) lo T H D u (blkK id (run lk) lo kk) = true := h
    have hl := (code_sound hdrw hlo c (k := .inBlock id :: k) hf h').congr thenK_nil
    obtain ⟨o, T', H', D', u', φ', a', cs', w', h1, h2, h3, h4, h5⟩ := hl
    have hs1 := Steps.one (stepR_block (P := P) (b := b) (a := a) (k := k) (cs := cs) (w := w) (id := id) (c := c))
    cases h5 with
    | nrm hs => exact ⟨.nrm, T', H', D', u', φ', a', cs', w', h1, h2, h3, h4, .nrm (hs1.trans (hs.trans (.one stepR_inBlock)))⟩
    | exit j k' hk hs =>
      have h6 : ib (Nat.beq j id) (run lk lo T' H' D' u' kk) (kk (.exit j) T' H' D' u') = true := h1
      rw [ib_eq] at h6
      split at h6
      · rename_i hj
        have hj := beq_iff.1 hj
        subst hj
        have hk2 : exitTo j k' = some k := by rw [hk]; simp [exitTo]
        exact ⟨.nrm, T', H', D', u', φ', a', cs', w', h6, h2, h3, h4, .nrm (hs1.trans (hs.trans (.one (stepR_exit hk2))))⟩
      · rename_i hj
        have hj : id ≠ j := fun e => hj (beq_iff.2 e.symm)
        have hk2 : exitTo j k' = exitTo j k := by rw [hk]; simp [exitTo, hj]
        exact ⟨.exit j, T', H', D', u', φ', a', cs', w', h6, h2, h3, h4, .exit j k' hk2 (hs1.trans hs)⟩
    | ret k' hs => exact ⟨.ret, T', H', D', u', φ', a', cs', w', h1, h2, h3, h4, .ret k' (hs1.trans hs)⟩
    | pan todo hv hs => exact ⟨.pan _, T', H', D', u', φ', a', cs', w', h1, h2, h3, h4, .pan todo hv (hs1.trans hs)⟩
  | .loop c, lk, T, H, D, u, kk, φ, b, a, cs, w, k, hf, h => by
    have h' : run (comp P nt c .nil) lo T H D u (loopK (comp P nt c .nil) lo kk) = true := h
    have hl := (code_sound hdrw hlo c (k := .inLoop c :: k) hf h').congr thenK_nil
    exact ((loop_way hlo hl).mono noNrm_then).of_steps (.one stepR_loop)
  | .rangeFunc f ps x y, lk, T, H, D, u, kk, φ, b, a, cs, w, k, hf, h => by
    unfold comp at h
    split at h
    · rename_i lf hlf
      split at h
      · rename_i hps
        have h' : (bb (getO lf T) fun f => doRng f (ps.toList.map posOf) (comp P nt x .nil) (comp P nt y .nil) (run lk) lo T H D u kk) = true := h
        obtain ⟨fv, hfv, h2⟩ := bb_true.1 h'
        exact rng_sound (fl := lf) hlo hf (fun p hp => by have := List.all_eq_true.1 hps p hp; simpa using this) (opd_one hf.tmps hlf hfv) h2
      · cases h
    · cases h
  | .exit id, lk, T, H, D, u, kk, φ, b, a, cs, w, k, hf, h => ⟨.exit id, T, H, D, u, φ, a, cs, w, h, .refl hf.sim, hf, .refl _ _, .exit id k rfl (.refl P _)⟩
  | .ret, lk, T, H, D, u, kk, φ, b, a, cs, w, k, hf, h => ⟨.ret, T, H, D, u, φ, a, cs, w, h, .refl hf.sim, hf, .refl _ _, .ret k (.refl P _)⟩
  | .scope _, _, _, _, _, _, _, _, _, _, _, _, _, _, h => by cases h
  | .label _, _, _, _, _, _, _, _, _, _, _, _, _, _, h => by cases h
  | .goto _, _, _, _, _, _, _, _, _, _, _, _, _, _, h => by cases h
  | .refuse _, _, _, _, _, _, _, _, _, _, _, _, _, _, h => by cases h
end
end Go.LX

/- LX, part 32: what is deferred; functions; every level. -/
namespace Go.LX
section
variable {P : Program}

theorem asDefr_some {o : LO} {e : Unit} (h : o.asDefr = some e) : o = .defr := by cases o <;> simp [LO.asDefr] at h; rfl
theorem defers_sound {cl : Cl} (hcl : ClSound P cl) : ∀ (D : List LDef) {u : Pan} {H : Heap} {k : Pan → Heap → Bool} {φ : Phi} {w : World} {fr : Frame} {cs : List Frame}, runDefers cl D u H k = true → Sim P φ H w → DefsRel φ D fr.defers → ModeRel φ u fr.mode →
    ∃ u' H' φ' w' m', k u' H' = true ∧ Stp P φ H w φ' H' w' ∧ ModeRel φ' u' m' ∧ Steps P (lone fr cs w) (lone { fr with mode := m', defers := [] } cs w')
  | [], u, H, k, φ, w, fr, cs, h, hs, hd, hm => by
    have h' : k u H = true := h
    have he : fr.defers = [] := by generalize fr.defers = ds at hd; cases hd; rfl
    refine ⟨u, H, φ, w, fr.mode, h', .refl hs, hm, ?_⟩
    have : ({ fr with mode := fr.mode, defers := [] } : Frame) = fr := by cases fr; simp at he ⊢; exact he
    rw [this]; exact .refl P _
  | .coll p :: D, u, H, k, φ, w, fr, cs, h, hs, hd, hm => by
    have h' : (bb (H.t.get p) fun o => bb o.asDefr fun _ => runDefers cl D u (H.drop p) k) = true := h
    simp only [bb_true] at h'
    obtain ⟨o, ho, _, hu, h2⟩ := h'
    have ho2 := asDefr_some hu
    subst ho2
    generalize hds : fr.defers = ds at hd
    cases hd with
    | cons hd1 hds' =>
      rename_i e es
      cases hd1 with
      | coll hφ =>
        rename_i r
        obtain ⟨r', x, hφ', hheap, hob⟩ := hs.obj ho (by simp)
        rw [hφ] at hφ'; cases hφ'
        cases hob
        have hdrop := hs.drop (x := .deferred none) ho hφ
        have htake : (Instr.takeDeferred r).run P w = .ok [] { w with heap := w.heap.setIfInBounds r (.deferred none) } := by
          simp [Instr.takeDeferred, run_getObj (P := P) hheap (by simp), run_setObj (P := P) hheap (by simp)]
        have hstep : step P (lone fr cs w) = .next (lone { fr with defers := es } cs { w with heap := w.heap.setIfInBounds r (.deferred none) }) := by
          refine step_lone_go ?_
          cases hmode : fr.mode with
          | run => rw [hmode] at hm; cases hm
          | returning => simp [stepG, unwind, hmode, hds, Sem.runT_eq, htake]
          | panicking chain => simp [stepG, unwind, hmode, hds, Sem.runT_eq, htake]
        obtain ⟨u', H', φ', w', m', h3, h4, h5, h6⟩ := defers_sound hcl D (fr := { fr with defers := es }) (cs := cs) h2 hdrop.sim hds' hm
        exact ⟨u', H', φ', w', m', h3, hdrop.trans h4, h5, .head hstep h6⟩
  | .call f args :: D, u, H, k, φ, w, fr, cs, h, hs, hd, hm => by
    generalize hds : fr.defers = ds at hd
    cases hd with
    | cons hd1 hds' =>
      rename_i e es
      cases hd1 with
      | call _ hargs =>
        rename_i cap as
        have h' : cl f args H u (fun pan _ H' u' =>
          match pan, u' with
          | some v, .ret => runDefers cl D (.pan v false) H' k
          | none, .pan _ true => runDefers cl D .ret H' k
          | none, u' => runDefers cl D u' H' k
          | _, _ => false) = true := h
        have hup : UpRel φ .deferred none u ({ fr with defers := es } :: cs) := .dfr rfl rfl hm
        obtain ⟨hth, pan, v, H1, u1, φ1, w1, cs1, fr1, h1, h2, h3, h4, h5, h6, _, h7⟩ := hcl f args _ φ H w u .deferred ({ fr with defers := es } :: cs) _ h' hs hargs hup
        have hrun : fr.mode ≠ .run := by intro e; rw [e] at hm; cases hm
        have hstep := step_defer (P := P) (cs := cs) (w := w) (f := f.idx) (args := as ++ cap) hrun hds rfl (by simp [invoke, run_callFunc hth])
        rw [Array.toArray_toList] at h5
        -- the frame below
        obtain ⟨m1, hm1, hcs1⟩ : ∃ m1, ModeRel φ1 u1 m1 ∧ cs1 = { fr with defers := es, mode := m1 } :: cs := by
          cases h3 with
          | none hk hr => cases hk
          | rnd hk hr => cases hk
          | dfr hk hr hmr =>
            rename_i c t
            rcases h4 with h4 | ⟨_, c0, t0, m0, h41, h42⟩
            · cases h4; exact ⟨_, hmr, rfl⟩
            · cases h41; cases h42; exact ⟨_, hmr, rfl⟩
        subst hcs1
        cases pan with
        | none =>
          obtain ⟨x, hx, hgo⟩ := h7
          have hs2 := step_going_returned (c := { fr with defers := es, mode := m1 }) (cs := cs) h6 hgo
          have hpre := Steps.head hstep (h5.trans (.one hs2))
          -- the mode behind it
          obtain ⟨u2, hu2, hm2⟩ : ∃ u2, runDefers cl D u2 H1 k = true ∧ ModeRel φ1 u2 (settle m1) := by
            cases hm1 with
            | ret => exact ⟨.ret, h1, .ret⟩
            | pan rc hv =>
              cases rc with
              | true => exact ⟨.ret, h1, .ret⟩
              | false => exact ⟨_, h1, .pan false hv⟩
          obtain ⟨u', H', φ', w', m', g3, g4, g5, g6⟩ := defers_sound hcl D (fr := { fr with defers := es, mode := settle m1 }) (cs := cs) hu2 h2.sim (hds'.mono h2.le) hm2
          exact ⟨u', H', φ', w', m', g3, h2.trans g4, g5, hpre.trans g6⟩
        | some ev =>
          obtain ⟨x, hx, hgo⟩ := h7
          have hs2 := step_going_panicked (c := { fr with defers := es, mode := m1 }) (cs := cs) hgo
          have hpre := Steps.head hstep (h5.trans (.one hs2))
          cases hm1 with
          | ret =>
            have h8 : runDefers cl D (.pan ev false) H1 k = true := h1
            obtain ⟨u', H', φ', w', m', g3, g4, g5, g6⟩ := defers_sound hcl D (fr := { fr with defers := es, mode := .panicking [{ v := x, recovered := false }] }) (cs := cs) h8 h2.sim (hds'.mono h2.le) (.pan false hx)
            exact ⟨u', H', φ', w', m', g3, h2.trans g4, g5, hpre.trans g6⟩
          | pan rc hv => cases rc <;> cases h1

/-! functions -/
theorem compL_get : ∀ (fs : List Func) (i : Pos) (t : Trie LFunc) (p : Pos) (lf : LFunc), (compL P fs i t).get p = some lf → (∃ fn, fs[p.idx - i.idx]? = some fn ∧ i.idx ≤ p.idx ∧ compFn P fn = some lf) ∨ t.get p = some lf
  | [], i, t, p, lf, h => .inr h
  | f :: fs, i, t, p, lf, h => by
    have h' : (compL P fs i.succ (t.put (compFn P f) i)).get p = some lf := h
    rcases compL_get fs i.succ _ p lf h' with ⟨fn, h1, h2, h3⟩ | h1
    · rw [Pos.succ_idx] at h1 h2
      refine .inl ⟨fn, ?_, by omega, h3⟩
      rw [show p.idx - i.idx = (p.idx - (i.idx + 1)) + 1 by omega]
      simpa using h1
    · rw [Trie.get_put] at h1
      split at h1
      · rename_i e
        subst e
        exact .inl ⟨f, by simp, Nat.le_refl _, h1⟩
      · exact .inr h1
theorem fns_get {f : Pos} {lf : LFunc} (h : (fnsOf P).get f = some lf) : ∃ fn c, P.funcs[f.idx]? = some fn ∧ fn.body = some c ∧ (fn.name == "runtime.NumGoroutine") = false ∧ lf.body = comp P fn.ntmps c .nil ∧ compRes P fn.ntmps fn.results.toList = some lf.results := by
  rcases compL_get P.funcs.toList .h .lf f lf h with ⟨fn, h1, h2, h3⟩ | h1
  · have : (Pos.h).idx = 0 := rfl
    rw [this, Nat.sub_zero, Array.getElem?_toList] at h1
    unfold compFn at h3
    split at h3
    · rename_i c rs hb hr
      split at h3
      · cases h3
      · rename_i hn
        cases h3
        exact ⟨fn, c, h1, hb, by simpa using hn, rfl, hr⟩
    · cases h3
  · rw [Trie.get_lf] at h1; cases h1
theorem mkTmps_rel : ∀ {vs : List LV} {xs : List Value} {φ : Phi} {T : Trie LV} {tmps : Array Value} (i : Pos), Rels φ vs xs → TRel φ T tmps → (∀ j, j < xs.length → tmps[i.idx + j]? = xs[j]?) → TRel φ (mkTmps T i vs) tmps
  | [], _, φ, T, tmps, i, .nil, hT, _ => hT
  | v :: vs, _, φ, T, tmps, i, .cons hv hvs, hT, hg => by
    rename_i x xs
    have h' : mkTmps T i (v :: vs) = mkTmps (T.put (some v) i) i.succ vs := rfl
    rw [h']
    refine mkTmps_rel i.succ hvs (fun p y hy => ?_) (fun j hj => ?_)
    · rw [Trie.get_put] at hy
      split at hy
      · rename_i e
        subst e
        cases hy
        exact ⟨x, by have := hg 0 (by simp); simpa using this, hv⟩
      · exact hT p y hy
    · have := hg (j + 1) (by simpa using hj)
      rw [Pos.succ_idx, show i.idx + 1 + j = i.idx + (j + 1) by omega, this]; simp
theorem trel_lf {φ : Phi} {tmps : Array Value} : TRel φ .lf tmps := fun p x h => by rw [Trie.get_lf] at h; cases h
end
end Go.LX

/- LX, part 33: functions; every level. -/
namespace Go.LX
section
variable {P : Program} {φ : Phi} {H : Heap} {w : World} {nt : Nat} {T : Trie LV}

/-- a result variable that is read -/
def resRun (tmps : Array Value) : ResultVar → Sem Value
  | .tmp t => pure (tmps.getD t undef)
  | .cell a t => do loadVar t (← asAddr (tmps.getD a undef))
theorem results_eq (fn : Func) (tmps : Array Value) : results fn tmps = (do let vs ← fn.results.mapM (resRun tmps); pure (if h : vs.size = 1 then vs[0] else .tuple vs)) := by
  unfold results resRun
  congr 2
theorem getD_of {tmps : Array Value} {t : Nat} {v : Value} (h : tmps[t]? = some v) : tmps.getD t undef = v := by simp [Array.getD_eq_getD_getElem?, h]
theorem compRes_cons {r : ResultVar} {rs : List ResultVar} {xs : List (Bool × Pos × Nat)} (h : compRes P nt (r :: rs) = some xs) : ∃ x xs', xs = x :: xs' ∧ compRes P nt rs = some xs' ∧
    ((∃ t, r = .tmp t ∧ x = (true, posOf t, 0)) ∨ (∃ a t, r = .cell a t ∧ ((∃ n, aggOrOne P t = some (true, n + 1) ∧ x = (false, posOf a, n + 1)) ∨ (∃ n, aggOrOne P t = some (false, n) ∧ x = (false, posOf a, 0))))) := by
  simp only [compRes] at h
  split at h
  · rename_i t xs' hxs
    split at h
    · cases h; exact ⟨_, _, rfl, hxs, .inl ⟨t, rfl, rfl⟩⟩
    · cases h
  · rename_i a t xs' hxs
    split at h
    · split at h
      · rename_i n hn; cases h; exact ⟨_, _, rfl, hxs, .inr ⟨a, t, rfl, .inl ⟨n, hn, rfl⟩⟩⟩
      · rename_i n hn; cases h; exact ⟨_, _, rfl, hxs, .inr ⟨a, t, rfl, .inr ⟨n, hn, rfl⟩⟩⟩
      · cases h
    · cases h
  · cases h
theorem res_one (hs : Sim P φ H w) {tmps : Array Value} (hT : TRel φ T tmps) {r : ResultVar} {x : Bool × Pos × Nat} (hx : (∃ t, r = .tmp t ∧ x = (true, posOf t, 0)) ∨ (∃ a t, r = .cell a t ∧ ((∃ n, aggOrOne P t = some (true, n + 1) ∧ x = (false, posOf a, n + 1)) ∨ (∃ n, aggOrOne P t = some (false, n) ∧ x = (false, posOf a, 0)))))
    {y : LV} (h : readRes T H x = some y) : ∃ v, (resRun tmps r).run P w = .ok v w ∧ Rel φ y v := by
  have h' : (ob (T.get x.2.1) fun v => ib x.1 (some v) (@Nat.rec (fun _ => Option LV) (load1 v H) (fun n _ => ob (loadRow v H (Nat.succ n)) fun cs => some (.agg cs)) x.2.2)) = some y := h
  obtain ⟨p, hp, h2⟩ := ob_some.1 h'
  obtain ⟨u, hu, hr⟩ := hT _ _ hp
  rcases hx with ⟨t, rfl, rfl⟩ | ⟨a, t, rfl, ⟨n, hn, rfl⟩ | ⟨n, hn, rfl⟩⟩
  · have h3 : some p = some y := h2
    cases h3
    rw [posOf_idx] at hu
    exact ⟨u, by simp only [resRun, getD_of hu, Sem.run_pure], hr⟩
  · have h3 : (ob (loadRow p H (Nat.succ n)) fun cs => some (LV.agg cs)) = some y := h2
    obtain ⟨cs, hcs, e⟩ := ob_some.1 h3
    cases e
    rw [posOf_idx] at hu
    obtain ⟨v, hv, hrv⟩ := gives_loadN hs hn hcs hr
    refine ⟨v, ?_, hrv⟩
    obtain ⟨b, o, tr, rfl, _, _⟩ := loadRow_some hcs
    obtain ⟨B, base, lim, _, rfl⟩ := rel_ptr hr
    simpa [resRun, getD_of hu, asAddr, Instr.loadAt, Instr.sureAddr] using hv
  · have h3 : load1 p H = some y := h2
    rw [posOf_idx] at hu
    obtain ⟨v, hv, hrv⟩ := gives_load1 hs hn h3 hr
    refine ⟨v, ?_, hrv⟩
    obtain ⟨b, o, tr, rfl, _, _⟩ := load1_some h3
    obtain ⟨B, base, lim, _, rfl⟩ := rel_ptr hr
    simpa [resRun, getD_of hu, asAddr, Instr.loadAt, Instr.sureAddr] using hv
theorem res_all (hs : Sim P φ H w) {tmps : Array Value} (hT : TRel φ T tmps) : ∀ {rs : List ResultVar} {xs : List (Bool × Pos × Nat)} {ys : List LV}, compRes P nt rs = some xs → readResults T H xs = some ys →
    ∃ vs, (rs.mapM (resRun tmps)).run P w = .ok vs w ∧ Rels φ ys vs
  | [], xs, ys, h1, h2 => by
    have h1' : some [] = some xs := h1
    cases h1'
    have h2' : some [] = some ys := h2
    cases h2'
    exact ⟨[], rfl, .nil⟩
  | r :: rs, xs, ys, h1, h2 => by
    obtain ⟨x, xs', rfl, h3, hx⟩ := compRes_cons h1
    have h2' : (ob (readRes T H x) fun y => ob (readResults T H xs') fun ys => some (y :: ys)) = some ys := h2
    simp only [ob_some] at h2'
    obtain ⟨y, hy, ys', hys, e⟩ := h2'
    cases e
    obtain ⟨v, hv, hr⟩ := res_one hs hT hx hy
    obtain ⟨vs, hvs, hrs⟩ := res_all hs hT h3 hys
    exact ⟨v :: vs, by simp [List.mapM_cons, hv, hvs], .cons hr hrs⟩
theorem results_sound (hs : Sim P φ H w) {tmps : Array Value} (hT : TRel φ T tmps) {fn : Func} {xs : List (Bool × Pos × Nat)} {ys : List LV} (h1 : compRes P nt fn.results.toList = some xs) (h2 : readResults T H xs = some ys) :
    ∃ v, (results fn tmps).run P w = .ok v w ∧ Rel φ (resVal ys) v := by
  obtain ⟨vs, hvs, hr⟩ := res_all hs hT h1 h2
  have hm : (fn.results.mapM (resRun tmps)).run P w = .ok vs.toArray w := by
    rw [Array.mapM_eq_mapM_toList]
    simp [hvs]
  rw [results_eq]
  simp only [Sem.run_bind, hm, Result.andThen_ok, Sem.run_pure]
  refine ⟨_, rfl, ?_⟩
  cases hr with
  | nil => exact .tup .nil
  | cons h h' => cases h' with
    | nil => exact h
    | cons g2 g3 => exact .tup (.cons h (.cons g2 g3))

/-- a frame that has left its code -/
theorem leave_sound {cl : Cl} (hcl : ClSound P cl) {fn : Func} {rs : List (Bool × Pos × Nat)} (hrs : compRes P nt fn.results.toList = some rs) {kc : KC} {D : List LDef} {u0 u : Pan} {fr : Frame} {cs : List Frame}
    (hfn : P.funcs[fr.fn]? = some fn) (hs : Sim P φ H w) (hT : TRel φ T fr.tmps) (hd : DefsRel φ D fr.defers) (hm : ModeRel φ u fr.mode) (hup : UpRel φ fr.kind none u0 cs) (h : runDefers cl D u H (endMode rs T u0 kc) = true) :
    CallLands P φ H w fr.fn fr.kind cs (lone fr cs w) kc := by
  obtain ⟨u', H', φ', w', m', h1, h2, h3, h4⟩ := defers_sound hcl D (cs := cs) h hs hd hm
  cases h3 with
  | ret =>
    have h5 : (bb (readResults T H' rs) fun vs => kc none (resVal vs) H' u0) = true := h1
    obtain ⟨vs, hvs, h6⟩ := bb_true.1 h5
    obtain ⟨v, hv, hr⟩ := results_sound h2.sim (hT.mono h2.le) hrs hvs
    exact ⟨none, _, H', u0, φ', w', cs, _, h6, h2, hup.mono h2.le, .refl _ _, h4, rfl, rfl, v, hr, rfl, rfl, fn, hfn, hv⟩
  | pan rc hv =>
    cases rc with
    | true => cases h1
    | false => exact ⟨some _, _, H', u0, φ', w', cs, _, h1, h2, hup.mono h2.le, .refl _ _, h4, rfl, rfl, _, hv, rfl, rfl, fn, hfn⟩
theorem CallLands.of_steps {f : Nat} {kind : CallKind} {cs : List Frame} {m m' : Machine} {kc : KC} (hs : Steps P m m') (h : CallLands P φ H w f kind cs m' kc) : CallLands P φ H w f kind cs m kc := by
  obtain ⟨pan, v, H', u', φ', w', cs', fr, h1, h2, h3, h4, h5, h6, h7⟩ := h
  exact ⟨pan, v, H', u', φ', w', cs', fr, h1, h2, h3, h4, hs.trans h5, h6, h7⟩
theorem CallLands.after {φ₁ : Phi} {H₁ : Heap} {w₁ : World} {f : Nat} {kind : CallKind} {cs cs₁ : List Frame} {m : Machine} {kc : KC} (h1 : Stp P φ H w φ₁ H₁ w₁) (hc : SameCs kind cs cs₁) (h : CallLands P φ₁ H₁ w₁ f kind cs₁ m kc) : CallLands P φ H w f kind cs m kc := by
  obtain ⟨pan, v, H', u', φ', w', cs', fr, h2, h3, h4, h5, h6, h7, h8⟩ := h
  exact ⟨pan, v, H', u', φ', w', cs', fr, h2, h1.trans h3, h4, hc.trans h5, h6, h7, h8⟩
theorem fn_sound (hdrw : DrwSound P) {lo : Lo} (hlo : LoSound P lo) : ClSound P (clFn (fnsOf P) lo) := by
  intro f args vs φ H w u kind cs kc h hs hargs hup
  unfold clFn at h
  obtain ⟨lf, hlf, h⟩ := bb_true.1 h
  obtain ⟨fn, c, hfn, hb, hname, hbody, hres⟩ := fns_get hlf
  refine ⟨⟨fn, hfn, by rw [hb]; rfl, hname⟩, ?_⟩
  let b : Frame := { (default : Frame) with fn := f.idx, kind := kind }
  obtain ⟨a₀, ha₀⟩ : ∃ a₀ : Act, a₀ = { tmps := vs.toArray ++ Array.replicate (fn.ntmps - vs.length) undef, defers := [] } := ⟨_, rfl⟩
  have henter : Frame.enter P f.idx vs.toArray kind = b.atR a₀ [.code c] := by
    simp [Frame.enter, Frame.atR, hfn, hb, b, ha₀]
    rfl
  rw [henter]
  rw [hbody] at h
  have hT : TRel φ (mkTmps .lf .h args) a₀.tmps := by
    rw [ha₀]
    refine mkTmps_rel .h hargs trel_lf (fun j hj => ?_)
    rw [show (Pos.h).idx = 0 from rfl, Nat.zero_add, Array.getElem?_append_left (by simpa using hj)]
    simp
  have hsize : fn.ntmps ≤ a₀.tmps.size := by rw [ha₀]; simp; omega
  have hup' : UpRel φ b.kind b.roundOf u cs := hup
  have hfs : FS P φ fn.ntmps b (mkTmps .lf .h args) [] u a₀ cs H w := ⟨hs, hT, hsize, by rw [ha₀]; exact .nil, hup', by rw [show b.fn = f.idx from rfl, hfn]; rfl⟩
  have hl := (code_sound hdrw hlo c (k := []) hfs h).congr thenK_nil
  obtain ⟨o, T', H', D', u', φ', a', cs', w', h1, h2, h3, h4, h5⟩ := hl
  have hup2 : UpRel φ' kind none u' cs' := h3.up
  refine CallLands.after h2 h4 ?_
  -- the ways out
  have fin : ∀ {todo : List Item} {m : FrameMode} {ul : Pan}, ModeRel φ' ul m → runDefers lo.cl D' ul H' (endMode lf.results T' u' kc) = true → CallLands P φ' H' w' f.idx kind cs' (lone { b.atR a' todo with mode := m } cs' w') kc := by
    intro todo m ul hmr hrd
    exact leave_sound (fr := { b.atR a' todo with mode := m }) hlo.cl hres hfn h3.sim h3.tmps h3.defs hmr hup2 hrd
  have hret : (@List.rec LDef (fun _ => Bool) (finish lf.results T' u' kc H') (fun _ _ _ => runDefers lo.cl D' .ret H' (endMode lf.results T' u' kc)) D') = true → runDefers lo.cl D' .ret H' (endMode lf.results T' u' kc) = true := by
    intro hx
    cases D' with
    | nil => exact hx
    | cons d ds => exact hx
  cases h5 with
  | nrm hst => exact (fin .ret (hret h1)).of_steps (hst.trans (.one (stepR_end rfl)))
  | exit id k' hk hst => cases h1
  | ret k' hst => exact (fin .ret (hret h1)).of_steps (hst.trans (.one (stepR_ret rfl)))
  | pan todo hv hst => exact (fin (.pan false hv) h1).of_steps hst

/-- summaries -/
def SumSound (P : Program) (s : Sum) (f : Pos) : Prop := ∀ (args : List LV) (vs : List Value) (φ : Phi) (H : Heap) (w : World) (kind : CallKind) (cs : List Frame) (kc : KC) (els : Bool),
  s args H kc els = true → Sim P φ H w → Rels φ args vs → UpRel φ kind none .none cs → els = true ∨ FnThere P f.idx ∧ CallLands P φ H w f.idx kind cs (lone (Frame.enter P f.idx vs.toArray kind) cs w) kc
theorem lo_sound (hdrw : DrwSound P) {sums : Trie Sum} (hsums : ∀ f s, sums.get f = some s → SumSound P s f) : ∀ n, LoSound P (loN (fnsOf P) sums n)
  | 0 => ⟨fun _ _ _ _ _ _ _ _ _ _ _ _ _ h => (by cases h), fun _ _ _ _ _ _ _ _ _ _ _ _ _ h => (by cases h), fun _ _ _ _ _ _ _ _ _ _ h => (by cases h)⟩
  | n+1 => by
    have ih := lo_sound hdrw hsums n
    refine ⟨fun nt c T H D u kk φ b a cs w k h hf => ?_, fun nt c T H D u kk φ b a cs w k h hf => ?_, fun f args vs φ H w u kind cs kc h hs hargs hup => ?_⟩
    · have h' : run (comp P nt c .nil) (loN (fnsOf P) sums n) T H D u kk = true := h
      exact (code_sound hdrw ih c hf h').congr thenK_nil
    · have h' : run (comp P nt c .nil) (loN (fnsOf P) sums n) T H D u (loopK (comp P nt c .nil) (loN (fnsOf P) sums n) kk) = true := h
      exact (loop_way ih ((code_sound hdrw ih c (k := .inLoop c :: k) hf h').congr thenK_nil)).of_steps (.one stepR_inLoop)
    · have h' : clOf (fnsOf P) sums (loN (fnsOf P) sums n) f args H u kc = true := h
      unfold clOf at h'
      cases hsf : sums.get f with
      | none => rw [hsf] at h'; exact fn_sound hdrw ih f args vs φ H w u kind cs kc h' hs hargs hup
      | some s =>
        rw [hsf] at h'
        cases u with
        | none =>
          rcases hsums f s hsf args vs φ H w kind cs kc _ h' hs hargs hup with h2 | h2
          · exact fn_sound hdrw ih f args vs φ H w .none kind cs kc h2 hs hargs hup
          · exact h2
        | rnd => cases h'
        | ret => exact fn_sound hdrw ih f args vs φ H w .ret kind cs kc h' hs hargs hup
        | pan v r => exact fn_sound hdrw ih f args vs φ H w (.pan v r) kind cs kc h' hs hargs hup
end
end Go.LX

/- LX, part 34: heaps of which some new blocks are not yet told. -/
namespace Go.LX
section
variable {P : Program}

/-- L: blocks that are there, but not in H yet -/
structure SimL (P : Program) (φ : Phi) (H : Heap) (L : Pos → Option LO) (w : World) : Prop where
  sim : Sim P φ H w
  blk : ∀ p o, L p = some o → BlockOk P φ w p o
  low : ∀ p o, L p = some o → p.toNat < H.next.toNat ∧ H.t.get p = none
  sep : ∀ p q o o' B, L p = some o → H.t.get q = some o' → physB φ p = some B → physB φ q ≠ some B
  sep2 : ∀ p q o o' B, L p = some o → L q = some o' → physB φ p = some B → physB φ q = some B → p = q
/-- what has come of a region's start -/
structure StpL (P : Program) (φ₀ : Phi) (H₀ : Heap) (w₀ : World) (φ : Phi) (H : Heap) (L : Pos → Option LO) (w : World) : Prop where
  sim : SimL P φ H L w
  le : φ₀.le φ
  low : ∀ p, p.toNat < H₀.next.toNat → φ p = φ₀ p
  fr : Fr φ₀ H₀ w₀ w
  foot : ∀ p o B, H.t.get p = some o → physB φ p = some B → w₀.heap.size ≤ B ∨ ∃ q o', H₀.t.get q = some o' ∧ physB φ₀ q = some B
  footL : ∀ p o B, L p = some o → physB φ p = some B → w₀.heap.size ≤ B
  next : H₀.next.toNat ≤ H.next.toNat
section
variable {φ₀ φ φ' : Phi} {H₀ H H' : Heap} {w₀ w w' : World} {L : Pos → Option LO}
theorem StpL.stp (h : StpL P φ₀ H₀ w₀ φ H L w) : Stp P φ₀ H₀ w₀ φ H w := ⟨h.sim.sim, h.le, h.low, h.fr, h.foot, h.next⟩
theorem StpL.start (h : Sim P φ₀ H₀ w₀) {n : Pos} (hn : H₀.next.toNat ≤ n.toNat) (k : Nat) : StpL P φ₀ H₀ w₀ φ₀ ⟨n, H₀.t, H₀.fs⟩ (fun _ => none) (w₀.drewN k) := by
  have h1 := h.drewN k
  exact ⟨⟨⟨fun p hp => h.fresh p (Nat.le_trans hn hp), h1.sim.blk, h1.sim.sep, h1.sim.facts⟩, fun _ _ h => (by cases h), fun _ _ h => (by cases h), fun _ _ _ _ _ h => (by cases h), fun _ _ _ _ _ h => (by cases h)⟩, h1.le, h1.low, h1.fr, fun p o B hp hB => .inr ⟨p, o, hp, hB⟩, fun _ _ _ h => (by cases h), hn⟩
theorem SimL.asm (h : SimL P φ H L w) {F : Facts} (hF : FactsOk φ F) : SimL P φ ⟨H.next, H.t, F⟩ L w := ⟨h.sim.asm hF, h.blk, h.low, h.sep, h.sep2⟩
theorem StpL.asm (h : StpL P φ₀ H₀ w₀ φ H L w) {F : Facts} (hF : FactsOk φ F) : StpL P φ₀ H₀ w₀ φ ⟨H.next, H.t, F⟩ L w := ⟨h.sim.asm hF, h.le, h.low, h.fr, h.foot, h.footL, h.next⟩
/-- an operation of H's own -/
theorem StpL.step (h : StpL P φ₀ H₀ w₀ φ H L w) (hs : Stp P φ H w φ' H' w') : StpL P φ₀ H₀ w₀ φ' H' L w' := by
  have hpL : ∀ p o, L p = some o → φ' p = φ p := fun p o hp => hs.low p (h.sim.low p o hp).1
  have hpB : ∀ p o, L p = some o → physB φ' p = physB φ p := fun p o hp => by simp only [physB, hpL p o hp]
  have hno : ∀ p o B, L p = some o → physB φ p = some B → ∀ q o', H.t.get q = some o' → physB φ q ≠ some B := fun p o B hp hB q o' hq => h.sim.sep p q o o' B hp hq hB
  have hlt : ∀ p o B, L p = some o → physB φ p = some B → B < w.heap.size := by
    intro p o B hp hB
    obtain ⟨B', hB', hl⟩ := (h.sim.blk p o hp).phys
    rw [hB] at hB'; cases hB'; exact hl
  have hnot : ∀ p o, L p = some o → ∀ q o' B, H'.t.get q = some o' → physB φ p = some B → physB φ' q ≠ some B := by
    intro p o hp q o' B hq hB hB'
    rcases hs.foot q o' B hq hB' with h1 | ⟨q', o'', hq', hB''⟩
    · have := hlt p o B hp hB; omega
    · exact hno p o B hp hB q' o'' hq' hB''
  refine ⟨⟨hs.sim, fun p o hp => ?_, fun p o hp => ⟨Nat.lt_of_lt_of_le (h.sim.low p o hp).1 hs.next, ?_⟩, fun p q o o' B hp hq hB => ?_, fun p q o o' B hp hq hB hB' => ?_⟩, Phi.le_trans h.le hs.le, fun p hp => ?_, ?_, fun p o B hp hB => ?_, fun p o B hp hB => ?_, Nat.le_trans h.next hs.next⟩
  · exact (h.sim.blk p o hp).mono hs.le (fun B hB => hs.fr.keep B (hlt p o B hp hB) (hno p o B hp hB)) hs.fr.size
  · cases hg : H'.t.get p with
    | none => rfl
    | some o' =>
      exfalso
      obtain ⟨B, hB, _⟩ := (hs.sim.blk p o' hg).phys
      exact hnot p o hp p o' B hg (by rw [← hpB p o hp]; exact hB) hB
  · rw [hpB p o hp] at hB; exact hnot p o hp q o' B hq hB
  · rw [hpB p o hp] at hB; rw [hpB q o' hq] at hB'; exact h.sim.sep2 p q o o' B hp hq hB hB'
  · rw [hs.low p (Nat.lt_of_lt_of_le hp h.next), h.low p hp]
  · exact (h.stp.trans hs).fr
  · exact (h.stp.trans hs).foot p o B hp hB
  · rw [hpB p o hp] at hB; exact h.footL p o B hp hB
/-- a block is told -/
theorem StpL.ins (h : StpL P φ₀ H₀ w₀ φ H L w) {p0 : Pos} {ob : LO} (hp : L p0 = some ob) : StpL P φ₀ H₀ w₀ φ (H.setO p0 ob) (fun p => if p = p0 then none else L p) w := by
  have hget : ∀ q o, (H.setO p0 ob).t.get q = some o → (q = p0 ∧ o = ob) ∨ (q ≠ p0 ∧ H.t.get q = some o) := by
    intro q o hq
    have : (H.setO p0 ob).t.get q = if q = p0 then some ob else H.t.get q := Trie.get_put _ _ _ _
    rw [this] at hq
    by_cases e : q = p0
    · rw [if_pos e] at hq; cases hq; exact .inl ⟨e, rfl⟩
    · rw [if_neg e] at hq; exact .inr ⟨e, hq⟩
  have hL : ∀ q o, (if q = p0 then none else L q) = some o → q ≠ p0 ∧ L q = some o := by
    intro q o hq
    by_cases e : q = p0
    · rw [if_pos e] at hq; cases hq
    · rw [if_neg e] at hq; exact ⟨e, hq⟩
  have hs := h.sim
  refine ⟨⟨⟨hs.sim.fresh, fun q o hq => ?_, fun p q o o' B hp' hq hB hB' => ?_, hs.sim.facts⟩, fun p o hp' => hs.blk p o (hL p o hp').2, fun p o hp' => ⟨(hs.low p o (hL p o hp').2).1, ?_⟩, fun p q o o' B hp' hq hB => ?_, fun p q o o' B hp' hq hB hB' => hs.sep2 p q o o' B (hL p o hp').2 (hL q o' hq).2 hB hB'⟩,
    h.le, h.low, h.fr, fun p o B hp' hB => ?_, fun p o B hp' hB => h.footL p o B (hL p o hp').2 hB, h.next⟩
  · rcases hget q o hq with ⟨rfl, rfl⟩ | ⟨_, hq'⟩
    · exact hs.blk _ _ hp
    · exact hs.sim.blk q o hq'
  · rcases hget p o hp' with ⟨rfl, rfl⟩ | ⟨hp1, hp2⟩ <;> rcases hget q o' hq with ⟨rfl, rfl⟩ | ⟨hq1, hq2⟩
    · rfl
    · exact absurd hB' (hs.sep _ q _ o' B hp hq2 hB)
    · exact absurd hB (hs.sep _ p _ o B hp hp2 hB')
    · exact hs.sim.sep p q o o' B hp2 hq2 hB hB'
  · have : (H.setO p0 ob).t.get p = if p = p0 then some ob else H.t.get p := Trie.get_put _ _ _ _
    rw [this, if_neg (hL p o hp').1]; exact (hs.low p o (hL p o hp').2).2
  · rcases hget q o' hq with ⟨rfl, rfl⟩ | ⟨_, hq'⟩
    · intro hB'
      exact (hL p o hp').1 (hs.sep2 p _ o _ B (hL p o hp').2 hp hB hB')
    · exact hs.sep p q o o' B (hL p o hp').2 hq' hB
  · rcases hget p o hp' with ⟨rfl, rfl⟩ | ⟨_, hp2⟩
    · exact .inl (h.footL _ _ B hp hB)
    · exact h.foot p o B hp2 hB
/-- a block is made, under a name that was kept for it -/
theorem StpL.new (h : StpL P φ₀ H₀ w₀ φ H L w) {p0 : Pos} {ob : LO} {x : Phys} {ox : Obj} (hfr : φ p0 = none) (hlo : H₀.next.toNat ≤ p0.toNat) (hlt : p0.toNat < H.next.toNat) (hx : x.block = some w.heap.size) (hw : PlainW w w') (hh : w'.heap = w.heap.push ox) (hnew : BlockOk P (φ.set p0 x) w' p0 ob) :
    StpL P φ₀ H₀ w₀ (φ.set p0 x) H (fun p => if p = p0 then some ob else L p) w' := by
  have hle : φ.le (φ.set p0 x) := Phi.le_set hfr
  have hs := h.sim
  have hsz : w.heap.size ≤ w'.heap.size := by rw [hh]; simp
  have hold : ∀ B, B < w.heap.size → w'.heap[B]? = w.heap[B]? := fun B hB => heap_push_old hh hB
  have hnH : ∀ q o, H.t.get q = some o → q ≠ p0 := by
    intro q o hq e
    obtain ⟨B, hB, _⟩ := (hs.sim.blk q o hq).phys
    rw [e] at hB; simp [physB, hfr] at hB
  have hnL : ∀ q o, L q = some o → q ≠ p0 := by
    intro q o hq e
    obtain ⟨B, hB, _⟩ := (hs.blk q o hq).phys
    rw [e] at hB; simp [physB, hfr] at hB
  have hpB : ∀ q, q ≠ p0 → physB (φ.set p0 x) q = physB φ q := fun q hq => by simp [physB, Phi.set_ne hq]
  have hp0 : physB (φ.set p0 x) p0 = some w.heap.size := by simp [physB, Phi.set_same, hx]
  have hltH : ∀ q o B, H.t.get q = some o → physB φ q = some B → B < w.heap.size := by
    intro q o B hq hB
    obtain ⟨B', hB', hl⟩ := (hs.sim.blk q o hq).phys
    rw [hB] at hB'; cases hB'; exact hl
  have hltL : ∀ q o B, L q = some o → physB φ q = some B → B < w.heap.size := by
    intro q o B hq hB
    obtain ⟨B', hB', hl⟩ := (hs.blk q o hq).phys
    rw [hB] at hB'; cases hB'; exact hl
  have hL : ∀ q o, (if q = p0 then some ob else L q) = some o → (q = p0 ∧ o = ob) ∨ (q ≠ p0 ∧ L q = some o) := by
    intro q o hq
    by_cases e : q = p0
    · rw [if_pos e] at hq; cases hq; exact .inl ⟨e, rfl⟩
    · rw [if_neg e] at hq; exact .inr ⟨e, hq⟩
  refine ⟨⟨⟨fun p hp => ?_, fun q o hq => ?_, fun p q o o' B hp hq hB hB' => ?_, hs.sim.facts.mono hle⟩, fun p o hp => ?_, fun p o hp => ?_, fun p q o o' B hp hq hB => ?_, fun p q o o' B hp hq hB hB' => ?_⟩,
    Phi.le_trans h.le hle, fun p hp => ?_, ⟨hw.tape.trans h.fr.tape, hw.os.trans h.fr.os, hw.out.trans h.fr.out, Nat.le_trans h.fr.size hsz, fun B hB hn => ?_⟩, fun p o B hp hB => ?_, fun p o B hp hB => ?_, h.next⟩
  · rw [Phi.set_ne fun e => by rw [e] at hp; omega]; exact hs.sim.fresh p hp
  · exact (hs.sim.blk q o hq).mono hle (fun B hB => hold B (hltH q o B hq hB)) hsz
  · rw [hpB p (hnH p o hp)] at hB; rw [hpB q (hnH q o' hq)] at hB'; exact hs.sim.sep p q o o' B hp hq hB hB'
  · rcases hL p o hp with ⟨rfl, rfl⟩ | ⟨hne, hp'⟩
    · exact hnew
    · exact (hs.blk p o hp').mono hle (fun B hB => hold B (hltL p o B hp' hB)) hsz
  · rcases hL p o hp with ⟨rfl, rfl⟩ | ⟨hne, hp'⟩
    · refine ⟨hlt, ?_⟩
      cases hg : H.t.get p with
      | none => rfl
      | some o' => exact absurd rfl (hnH p o' hg)
    · exact hs.low p o hp'
  · rw [hpB q (hnH q o' hq)]
    rcases hL p o hp with ⟨rfl, rfl⟩ | ⟨hne, hp'⟩
    · rw [hp0] at hB; cases hB
      intro hB'
      have := hltH q o' _ hq hB'; omega
    · rw [hpB p hne] at hB; exact hs.sep p q o o' B hp' hq hB
  · rcases hL p o hp with ⟨rfl, rfl⟩ | ⟨hp1, hp2⟩ <;> rcases hL q o' hq with ⟨rfl, rfl⟩ | ⟨hq1, hq2⟩
    · rfl
    · rw [hp0] at hB; cases hB
      rw [hpB q hq1] at hB'
      have := hltL q o' _ hq2 hB'; omega
    · rw [hp0] at hB'; cases hB'
      rw [hpB p hp1] at hB
      have := hltL p o _ hp2 hB; omega
    · rw [hpB p hp1] at hB; rw [hpB q hq1] at hB'
      exact hs.sep2 p q o o' B hp2 hq2 hB hB'
  · rw [Phi.set_ne fun e => by rw [e] at hp; omega]; exact h.low p hp
  · rw [hold B (Nat.lt_of_lt_of_le hB h.fr.size)]; exact h.fr.keep B hB hn
  · rw [hpB p (hnH p o hp)] at hB; exact h.foot p o B hp hB
  · rcases hL p o hp with ⟨rfl, rfl⟩ | ⟨hne, hp'⟩
    · rw [hp0] at hB; cases hB; exact h.fr.size
    · rw [hpB p hne] at hB; exact h.footL p o B hp' hB
end
end
end Go.LX

/- LX, part 35: the operations that make blocks, under a name that was kept; what does not look at the heap; one and the same value. -/
namespace Go.LX
section
variable {P : Program} {φ : Phi} {H : Heap} {w : World} {nt : Nat} {T T' : Trie LV}

theorem cells_block {p0 : Pos} (hfr : φ p0 = none) {w' : World} {cur : Array Value} {e : TypeId} (hh : w'.heap = w.heap.push (.cells cur e)) {cs : List LV} (hr : Rels φ cs cur.toList) (ho : ∀ v ∈ cur.toList, v.oneCell' = true) :
    BlockOk P (φ.set p0 (.blk w.heap.size 0 cur.size)) w' p0 (.cells (mkRow .lf 0 cs)) := by
  have hle : φ.le (φ.set p0 (.blk w.heap.size 0 cur.size)) := Phi.le_set hfr
  have hnew := heap_push_new hh
  have hc : ∀ i, w'.cell? ⟨w.heap.size, 0 + i, none⟩ = cur[i]? := fun i => by simp [World.cell?, hnew]
  refine .cells (Phi.set_same _ _ _) ⟨fun i hi => ?_, fun i hi => ?_, fun i x hix => ?_, by rw [hh]; simp⟩
  · rw [hc, Array.getElem?_eq_getElem hi]; rfl
  · simp only [World.frozen?, hnew]; simp
  · rw [getN_mkRow] at hix
    split at hix
    · rw [Nat.sub_zero] at hix
      obtain ⟨v, hv, hrv⟩ := hr.get hix
      have hlt' : i < cur.size := by have := (List.getElem?_eq_some_iff.1 hv).1; simpa using this
      exact ⟨hlt', v, by rw [hc, ← Array.getElem?_toList]; exact hv, hrv.mono hle, ho v (List.mem_of_getElem? hv)⟩
    · rw [Trie.getN_lf] at hix; cases hix

/-- the law of an operation that makes a block -/
structure AOk (P : Program) (φ : Phi) (w : World) (ρ : Operand → Value) (o : Oper) (p0 : Pos) (x : LV) (ob : LO) : Prop where
  ex : ∃ v w' ph ox, (execOp ρ o).run P w = .ok (.value v) w' ∧ ph.block = some w.heap.size ∧ PlainW w w' ∧ w'.heap = w.heap.push ox ∧ BlockOk P (φ.set p0 ph) w' p0 ob ∧ Rel (φ.set p0 ph) x v
theorem buildSlice_run {ρ : Operand → Value} {t e : TypeId} {z : LV} {sz n : Nat} {ps : Array (Nat × Operand)} {lps : List (Nat × Nat × LOpd)} {cs : List LV} (ht : P.underlying t = some (.slice e)) (hsz : szOf P e = some sz) (hz : zeroOf P e = some z)
    (hlen : (cellsOf z).length = sz) (hn : n * sz ≤ 16384) (hps : partsOf nt (fun i => some (i * sz, sz)) ps.toList = some lps) (hop : OpdOk φ nt T ρ (ps.toList.map (·.2))) (hcs : fillParts T (rep n (cellsOf z)) lps = some cs) :
    ∃ r : Array Value, (Instr.buildSlice t n (ps.map fun (i, x) => (i, ρ x))).run P w = .ok (.slice (some ⟨w.heap.size, 0, none⟩) n n) (w.alloc (.cells r e)) ∧ Rels φ cs r.toList ∧ r.size = n * sz := by
  obtain ⟨iz, zv, hi, hzv, hzr, hzrun⟩ := zeroOf_some (φ := φ) (w := w) hz
  have hcr := cellsOf_sound hzr
  have hzs : zv.cells.size = sz := by rw [← Array.length_toList, hcr.length, hlen]
  have hmem : ∀ p ∈ ps.toList, p.2 ∈ ps.toList.map (·.2) := fun p hp => List.mem_map_of_mem hp
  have hrel := zeros_rel hcr n
  rw [hlen] at hrel
  obtain ⟨r, hr1, hr2⟩ := fill_sound hop hmem hps hcs hrel
  have hcsl : r.size = n * sz := by
    have : ∀ (place : Nat → Option (Nat × Nat)) (l : List (Nat × Value)) (cells r : Array Value), Instr.fill place cells l = some r → r.size = cells.size := by
      intro place l
      induction l with
      | nil => intro cells r h; simp only [Instr.fill, Option.some.injEq] at h; rw [h]
      | cons p l ih =>
        intro cells r h
        obtain ⟨i, v⟩ := p
        simp only [Instr.fill] at h
        split at h
        · cases h
        · split at h
          · cases h
          · rw [ih _ _ h, ← Array.foldl_toList]
            have : ∀ (l : List (Value × Nat)) (cs : Array Value) (off : Nat), (l.foldl (fun cs (x : Value × Nat) => cs.setIfInBounds (off + x.2) x.1) cs).size = cs.size := by
              intro l
              induction l with
              | nil => intro cs off; rfl
              | cons a l ih => intro cs off; rw [List.foldl_cons, ih]; simp
            exact this _ _ _
    have := this _ _ _ _ hr1
    rw [this]; simp
  have hb : ¬ (n * sz > 2 ^ 24) := by omega
  have hrun : (Instr.buildSlice t n (ps.map fun (i, x) => (i, ρ x))).run P w = .ok (.slice (some ⟨w.heap.size, 0, none⟩) n n) (w.alloc (.cells r e)) := by
    have hr1' : Instr.fill (fun i => some (i * sz, sz)) ((Array.range (n * sz)).map fun i => zv.cells[i % zv.cells.size]!) (ps.map fun (i, x) => (i, ρ x)).toList = some r := by
      rw [Array.toList_map]; exact hr1
    by_cases h0 : n * sz = 0
    · have e1 : ((Array.range (n * sz)).map fun i => (#[] : Array Value)[i % (#[] : Array Value).size]!) = (Array.range (n * sz)).map fun i => zv.cells[i % zv.cells.size]! := by
        rw [h0]; simp
      simp only [Instr.buildSlice, Sem.run_bind, run_underlying ht, Result.andThen_ok, szOf_some hsz, if_neg hb, if_pos h0, Sem.run_pure]
      rw [e1, hr1']
      simp [newRow]
    · simp only [Instr.buildSlice, Sem.run_bind, run_underlying ht, Result.andThen_ok, szOf_some hsz, if_neg hb, if_neg h0, Sem.run_pure, hzrun, hr1']
      simp [newRow]
  exact ⟨r, hrun, hr2, hcsl⟩
theorem a_sound {ρ : Operand → Value} {o : Oper} {mo : MOp} {x : LV} {ob : LO} {p0 : Pos} (hc : compOp P nt o = some (.m mo)) (hop : OpdOk φ nt T ρ o.op.operands.toList) (hfr : φ p0 = none) (hx : aVal mo p0 = some x) (h : aObj mo T = some ob) : AOk P φ w ρ o p0 x ob := by
  unfold compOp at hc
  split at hc <;> first | (cases hc; done) | exact (np1 hc).elim | exact (np2 hc).elim | exact (compBuild_p hc).elim | exact (compBin_p hc).elim | exact (compSlice_p hc).elim | exact (nc0 hc).elim | skip
  all_goals (rename_i ho; rw [ho] at hop; simp only [Op.operands] at hop)
  · exfalso; repeat' (first | (cases hc; done) | exact (np1 hc).elim | exact (np2 hc).elim | exact (np0 hc).elim | exact (nc0 hc).elim | (obtain ⟨_, _, e⟩ := m1_some hc; cases e; cases hx; done) | (obtain ⟨_, _, _, _, e⟩ := m2_some hc; cases e; cases hx; done) | (obtain ⟨_, _, _, _, _, _, e⟩ := m3_some hc; cases e; cases hx; done) | split at hc)
  · -- alloc
    rename_i et
    simp only [Option.map_eq_some_iff] at hc
    obtain ⟨z, hz, e⟩ := hc
    cases e
    obtain ⟨iz, zv, hi, hzv, hzr, hzrun⟩ := zeroOf_some (φ := φ) (w := w) hz
    have h' : ib (allOne (cellsOf z)) (some (LO.cells (mkRow .lf 0 (cellsOf z)))) none = some ob := h
    rw [ib_some] at h'
    obtain ⟨hone, e⟩ := h'
    cases e
    cases hx
    have hcr := cellsOf_sound hzr
    refine ⟨.pointer (some ⟨w.heap.size, 0, none⟩), w.alloc (.cells zv.cells et), .blk w.heap.size 0 zv.cells.size, _, ?_, rfl, plain_alloc _ _, rfl, cells_block hfr rfl hcr (allOne_rel hone hcr), ?_⟩
    · unfold execOp
      simp [ho, Instr.alloc, hzrun, newVar, newRow]
    · have := Rel.ptr (φ := φ.set p0 (.blk w.heap.size 0 zv.cells.size)) (b := p0) 0 (Phi.set_same _ _ _)
      simpa using this
  · -- box
    rename_i et a
    obtain ⟨la, rfl, ha⟩ := mone hc hop
    have h' : (Go.LX.ob (getO la T) fun v => ib (allOne (cellsOf v)) (some (LO.cells (mkRow .lf 0 (cellsOf v)))) none) = some ob := h
    obtain ⟨v, hv, h2⟩ := ob_some.1 h'
    rw [ib_some] at h2
    obtain ⟨hone, e⟩ := h2
    cases e
    cases hx
    have hcr := cellsOf_sound (ha _ hv)
    refine ⟨.pointer (some ⟨w.heap.size, 0, none⟩), w.alloc (.cells (ρ a).cells et), .blk w.heap.size 0 (ρ a).cells.size, _, ?_, rfl, plain_alloc _ _, rfl, cells_block hfr rfl hcr (allOne_rel hone hcr), ?_⟩
    · unfold execOp
      simp [ho, Instr.box, newVar, newRow]
    · have := Rel.ptr (φ := φ.set p0 (.blk w.heap.size 0 (ρ a).cells.size)) (b := p0) 0 (Phi.set_same _ _ _)
      simpa using this
  · -- buildSlice
    rename_i t n ps
    split at hc
    · rename_i e ht
      split at hc
      · rename_i sz z hsz hz
        split at hc
        · rename_i hcond
          simp only [Option.map_eq_some_iff] at hc
          obtain ⟨lps, hlps, e'⟩ := hc
          cases e'
          have h' : (Go.LX.ob (fillParts T (rep n (cellsOf z)) lps) fun cs => ib (allOne cs) (some (LO.cells (mkRow .lf 0 cs))) none) = some ob := h
          obtain ⟨cs, hcs, h2⟩ := ob_some.1 h'
          rw [ib_some] at h2
          obtain ⟨hone, e2⟩ := h2
          cases e2
          cases hx
          obtain ⟨r, hrun, hr2, hrs⟩ := buildSlice_run (w := w) ht hsz hz hcond.1 hcond.2.1 hlps (by simpa using hop) hcs
          refine ⟨.slice (some ⟨w.heap.size, 0, none⟩) n n, w.alloc (.cells r e), .blk w.heap.size 0 r.size, _, ?_, rfl, plain_alloc _ _, rfl, cells_block hfr rfl hr2 (allOne_rel hone hr2), ?_⟩
          · unfold execOp
            simp [ho, hrun]
          · exact .slice _ _ _ _ n _ (Phi.set_same _ _ _) (Nat.le_refl _) (Nat.le_trans hcond.2.2 (by decide)) (by rw [hrs]; simp) (.inr rfl) (.inr rfl)
        · cases hc
      · cases hc
    · cases hc
  iterate 7 (· exfalso; repeat' (first | (cases hc; done) | exact (np1 hc).elim | exact (np2 hc).elim | exact (np0 hc).elim | exact (nc0 hc).elim | (obtain ⟨_, _, e⟩ := m1_some hc; cases e; cases hx; done) | (obtain ⟨_, _, _, _, e⟩ := m2_some hc; cases e; cases hx; done) | (obtain ⟨_, _, _, _, _, _, e⟩ := m3_some hc; cases e; cases hx; done) | split at hc))
  · -- makeMap
    cases hc
    cases hx
    have h' : some (LO.map [] 0) = some ob := h
    cases h'
    refine ⟨.map (some w.heap.size), w.alloc (.map #[] 0), .obj w.heap.size, _, ?_, rfl, plain_alloc _ _, rfl, .obj (Phi.set_same _ _ _) (heap_push_new rfl) (.map _ .nil), .map (Phi.set_same _ _ _)⟩
    unfold execOp
    simp [ho, Instr.makeMap]
  iterate 11 (· exfalso; repeat' (first | (cases hc; done) | exact (np1 hc).elim | exact (np2 hc).elim | exact (np0 hc).elim | exact (nc0 hc).elim | (obtain ⟨_, _, e⟩ := m1_some hc; cases e; cases hx; done) | (obtain ⟨_, _, _, _, e⟩ := m2_some hc; cases e; cases hx; done) | (obtain ⟨_, _, _, _, _, _, e⟩ := m3_some hc; cases e; cases hx; done) | split at hc))
  · rename_i c
    exfalso
    split at hc
    · exact (nc0 hc).elim
    · split at hc <;> cases hc
    · rename_i b hb
      unfold compBuiltin at hc
      split at hc
      all_goals (repeat' (first | (cases hc; done) | exact (np1 hc).elim | exact (np2 hc).elim | exact (np0 hc).elim | exact (nc0 hc).elim | (obtain ⟨_, _, e⟩ := m1_some hc; cases e; cases hx; done) | (obtain ⟨_, _, _, _, e⟩ := m2_some hc; cases e; cases hx; done) | (obtain ⟨_, _, _, _, _, _, e⟩ := m3_some hc; cases e; cases hx; done) | split at hc))
    · cases hc
end
end Go.LX

