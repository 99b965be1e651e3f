/- The executor is sound, fourth part: regions that draw their order; calls told by a run, by variables, and by runs that are kept. No condition. -/
import Derived.Test.YtadbikomcolndaaGreatLxC
import Derived.Orders
import Derived.Below
import Derived.ChangeSame
import Derived.ProofKit
set_option linter.unusedVariables false

/- LX, part 36: one and the same value; what does not look at the heap; bits; guards. -/
namespace Go.LX
section

theorem bnot_bxor {a b : Bool} (h : bnot (bxor a b) = true) : a = b := by cases a <;> cases b <;> first | rfl | cases h
theorem intEq_true {a b : Int} (h : intEq a b = true) : a = b := by rw [intEq_eq] at h; simpa using h
theorem strEq_true {l m a b : Nat} (h : strEq l a m b = true) : l = m ∧ a = b := by
  have h' : ib (Nat.beq l m) (Nat.beq a b) false = true := h
  rw [ib_ff] at h'
  exact ⟨beq_iff.1 h'.1, beq_iff.1 h'.2⟩
theorem pos_eq {a b : Pos} (h : Nat.beq a.toNat b.toNat = true) : a = b := Pos.toNat_inj (beq_iff.1 h)
theorem sesEq_eq : ∀ (a b : List SE), sesEq a b = true → a = b
  | [], [], _ => rfl
  | x :: xs, y :: ys, h => by simp only [sesEq] at h; rw [ib_ff] at h; rw [seEq_eq h.1, sesEq_eq xs ys h.2]
  | [], _ :: _, h => by cases h
  | _ :: _, [], h => by cases h
mutual
theorem lvEq_eq : ∀ (a b : LV), lvEq a b = true → a = b
  | .bool a, y, h => by
    cases y with
    | bool b => simp only [lvEq] at h; rw [bnot_bxor h]
    | _ => cases h
  | .int j a, y, h => by
    cases y with
    | int k b => simp only [lvEq] at h; rw [ib_ff] at h; rw [kindEq_iff.1 h.1, intEq_true h.2]
    | _ => cases h
  | .str l a, y, h => by
    cases y with
    | str m b => simp only [lvEq] at h; obtain ⟨rfl, rfl⟩ := strEq_true h; rfl
    | _ => cases h
  | .ptr a i, y, h => by
    cases y with
    | ptr b j => simp only [lvEq] at h; rw [ib_ff] at h; rw [pos_eq h.1, beq_iff.1 h.2]
    | _ => cases h
  | .nilptr, y, h => by cases y <;> first | rfl | cases h
  | .nilslice, y, h => by cases y <;> first | rfl | cases h
  | .nilmap, y, h => by cases y <;> first | rfl | cases h
  | .nilfunc, y, h => by cases y <;> first | rfl | cases h
  | .niliface, y, h => by cases y <;> first | rfl | cases h
  | .slice a i l s c, y, h => by
    cases y with
    | slice b j m t d => simp only [lvEq] at h; simp only [ib_ff] at h; obtain ⟨h1, h2, h3, h4, h5⟩ := h; rw [pos_eq h1, beq_iff.1 h2, beq_iff.1 h3, beq_iff.1 h4, beq_iff.1 h5]
    | _ => cases h
  | .map a, y, h => by
    cases y with
    | map b => simp only [lvEq] at h; rw [pos_eq h]
    | _ => cases h
  | .yld a, y, h => by
    cases y with
    | yld b => simp only [lvEq] at h; rw [pos_eq h]
    | _ => cases h
  | .itr a, y, h => by
    cases y with
    | itr b => simp only [lvEq] at h; rw [pos_eq h]
    | _ => cases h
  | .opq a, y, h => by
    cases y with
    | opq b => simp only [lvEq] at h; rw [pos_eq h]
    | _ => cases h
  | .func f xs, y, h => by
    cases y with
    | func g ys => simp only [lvEq] at h; rw [ib_ff] at h; rw [pos_eq h.1, lvEqs_eq xs ys h.2]
    | _ => cases h
  | .mfunc f xs zs, y, h => by cases y <;> cases h
  | .iface t x, y, h => by
    cases y with
    | iface u z => simp only [lvEq] at h; rw [ib_ff] at h; rw [beq_iff.1 h.1, lvEq_eq x z h.2]
    | _ => cases h
  | .agg xs, y, h => by
    cases y with
    | agg ys => simp only [lvEq] at h; rw [lvEqs_eq xs ys h]
    | _ => cases h
  | .tup xs, y, h => by
    cases y with
    | tup ys => simp only [lvEq] at h; rw [lvEqs_eq xs ys h]
    | _ => cases h
  | .sint j a, y, h => by
    cases y with
    | sint k b => simp only [lvEq] at h; rw [ib_ff] at h; rw [kindEq_iff.1 h.1, seEq_eq h.2]
    | _ => cases h
  | .sbool a, y, h => by
    cases y with
    | sbool b => simp only [lvEq] at h; rw [seEq_eq h]
    | _ => cases h
  | .sstr a, y, h => by
    cases y with
    | sstr b => simp only [lvEq] at h; rw [sesEq_eq a b h]
    | _ => cases h
theorem lvEqs_eq : ∀ (a b : List LV), lvEq.lvEqs a b = true → a = b
  | [], [], _ => rfl
  | x :: xs, y :: ys, h => by simp only [lvEq.lvEqs] at h; rw [ib_ff] at h; rw [lvEq_eq x y h.1, lvEqs_eq xs ys h.2]
  | [], _ :: _, h => by cases h
  | _ :: _, [], h => by cases h
end

theorem pureOp_heap {po : POp} (h : heapDep (.p po) = false) {F : Facts} (T : Trie LV) (H H' : Heap) : pureOp F po T H = pureOp F po T H' := by
  cases po <;> first | rfl | cases h

/-! bits -/
theorem hasBit_eq (m i : Nat) : hasBit m i = m.testBit i := by
  unfold hasBit
  rw [Nat.testBit_eq_decide_div_mod_eq]
  have e0 : Nat.mod (Nat.shiftRight m i) 2 = m / 2 ^ i % 2 := by
    show (m >>> i) % 2 = _
    rw [Nat.shiftRight_eq_div_pow]
  rw [e0]
  cases h : Nat.beq (m / 2 ^ i % 2) 1
  · have h1 : ¬ (m / 2 ^ i % 2 = 1) := fun e => by rw [beq_iff.2 e] at h; cases h
    simp [h1]
  · simp [beq_iff.1 h]
theorem hasBit_or (a b i : Nat) : hasBit (Nat.lor a b) i = (hasBit a i || hasBit b i) := by
  simp only [hasBit_eq]; exact Nat.testBit_or a b i
theorem hasBit_pow (x i : Nat) : hasBit (2 ^ x) i = decide (x = i) := by rw [hasBit_eq, Nat.testBit_two_pow]
theorem hasBit_add (C x i : Nat) : hasBit (addBit C x) i = (hasBit C i || decide (x = i)) := by unfold addBit; rw [hasBit_or, hasBit_pow]
theorem hasBit_zero (i : Nat) : hasBit 0 i = false := by rw [hasBit_eq]; simp
theorem preOk_spec {b C : Nat} (h : preOk b C = true) {i : Nat} (hi : hasBit b i = true) : hasBit C i = true := by
  have h' : Nat.land b C = b := beq_iff.1 h
  rw [hasBit_eq] at hi ⊢
  have : (b &&& C).testBit i = true := by
    have : b &&& C = b := h'
    rw [this]; exact hi
  rw [Nat.testBit_and, Bool.and_eq_true] at this
  exact this.2

theorem bits_fold (acc : List Nat) : ∀ (after : List Edge) (s : Nat) (i : Nat), hasBit (after.foldl (fun s e => if Region.binds .any e then Nat.lor (Nat.lor s (2 ^ e.on)) (acc.getD e.on 0) else s) s) i = true ↔
    hasBit s i = true ∨ ∃ e ∈ after, Region.binds .any e = true ∧ (e.on = i ∨ hasBit (acc.getD e.on 0) i = true)
  | [], s, i => by simp
  | e :: after, s, i => by
    rw [List.foldl_cons, bits_fold acc after]
    constructor
    · rintro (h | ⟨e', he', hb, h⟩)
      · split at h
        · rename_i hb
          rw [hasBit_or, hasBit_or, hasBit_pow] at h
          simp only [Bool.or_eq_true, decide_eq_true_eq] at h
          rcases h with (h | h) | h
          · exact .inl h
          · exact .inr ⟨e, by simp, hb, .inl h⟩
          · exact .inr ⟨e, by simp, hb, .inr h⟩
        · exact .inl h
      · exact .inr ⟨e', by simp [he'], hb, h⟩
    · rintro (h | ⟨e', he', hb, h⟩)
      · left
        split
        · rw [hasBit_or, hasBit_or, h]; rfl
        · exact h
      · rcases List.mem_cons.1 he' with rfl | he'
        · left
          rw [if_pos hb, hasBit_or, hasBit_or, hasBit_pow]
          rcases h with h | h
          · simp [h]
          · rw [h]; simp
        · exact .inr ⟨e', he', hb, h⟩
theorem bits_iff {acc : List Nat} {after : List Edge} {i : Nat} : hasBit (bits after acc) i = true ↔ ∃ e ∈ after, Region.binds .any e = true ∧ (e.on = i ∨ hasBit (acc.getD e.on 0) i = true) := by
  unfold bits
  rw [bits_fold, hasBit_zero]; simp
theorem befores_get : ∀ (os : List Oper) (acc : List Nat), (befores os acc).length = acc.length + os.length ∧ (∀ x, x < acc.length → (befores os acc)[x]? = acc[x]?) ∧
    ∀ (x : Nat) (o : Oper), os[x]? = some o → (befores os acc)[acc.length + x]? = some (bits o.after.toList ((befores os acc).take (acc.length + x)))
  | [], acc => ⟨rfl, fun _ _ => rfl, fun x o h => by simp at h⟩
  | o :: os, acc => by
    obtain ⟨h1, h2, h3⟩ := befores_get os (acc ++ [bits o.after.toList acc])
    simp only [befores]
    refine ⟨by rw [h1]; simp; omega, fun x hx => by rw [h2 x (by simp; omega), List.getElem?_append_left hx], fun x o' ho' => ?_⟩
    have htake : (befores os (acc ++ [bits o.after.toList acc])).take acc.length = acc := by
      apply List.ext_getElem?
      intro i
      rw [List.getElem?_take]
      split
      · rename_i hi; rw [h2 i (by simp; omega), List.getElem?_append_left hi]
      · rename_i hi; rw [List.getElem?_eq_none (by omega)]
    cases x with
    | zero =>
      simp only [List.getElem?_cons_zero, Option.some.injEq] at ho'
      subst ho'
      rw [Nat.add_zero, htake, h2 acc.length (by simp)]
      simp
    | succ x =>
      have := h3 x o' (by simpa using ho')
      rw [List.length_append, List.length_singleton] at this
      rw [show acc.length + (x + 1) = acc.length + 1 + x by omega]
      exact this
end
end Go.LX

/- LX, part 36b: what was read reads the same where the heap holds more. -/
namespace Go.LX
section
variable {P : Program} {nt : Nat}

theorem cells_sub {H H' : Heap} (hs : ∀ q o, H.t.get q = some o → H'.t.get q = some o) {b : Pos} {t : Trie LV} (h : H.cells b = some t) : H'.cells b = some t := by
  unfold Heap.cells at h ⊢
  obtain ⟨o, h1, h2⟩ := ob_some.1 h
  exact ob_some.2 ⟨o, hs _ _ h1, h2⟩
theorem loadRow_sub {H H' : Heap} (hs : ∀ q o, H.t.get q = some o → H'.t.get q = some o) {x : LV} {n : Nat} {cs : List LV} (h : loadRow x H n = some cs) : loadRow x H' n = some cs := by
  cases x with
  | ptr b off =>
    have h' : (ob (H.cells b) fun t => getRow t off n) = some cs := h
    obtain ⟨t, h1, h2⟩ := ob_some.1 h'
    exact ob_some.2 ⟨t, cells_sub hs h1, h2⟩
  | _ => cases h
theorem load1_sub {H H' : Heap} (hs : ∀ q o, H.t.get q = some o → H'.t.get q = some o) {x : LV} {v : LV} (h : load1 x H = some v) : load1 x H' = some v := by
  cases x with
  | ptr b off =>
    have h' : (ob (H.cells b) fun t => t.getN off) = some v := h
    obtain ⟨t, h1, h2⟩ := ob_some.1 h'
    exact ob_some.2 ⟨t, cells_sub hs h1, h2⟩
  | _ => cases h
theorem slCells_sub {H H' : Heap} (hs : ∀ q o, H.t.get q = some o → H'.t.get q = some o) {x : LV} {sz : Nat} {c : Nat × List LV} (h : slCells x H sz = some c) : slCells x H' sz = some c := by
  cases x with
  | nilslice => exact h
  | slice b off len sz' cap =>
    have h' : ib (Nat.beq sz sz') (ob (H.cells b) fun t => ob (getRow t off (Nat.mul len sz)) fun cs => some (len, cs)) none = some c := h
    rw [ib_some] at h'
    obtain ⟨h0, h'⟩ := h'
    obtain ⟨t, h1, h2⟩ := ob_some.1 h'
    show ib (Nat.beq sz sz') (ob (H'.cells b) fun t => ob (getRow t off (Nat.mul len sz)) fun cs => some (len, cs)) none = some c
    rw [ib_some]
    exact ⟨h0, ob_some.2 ⟨t, cells_sub hs h1, h2⟩⟩
  | _ => cases h
theorem lookupLV_sub {H H' : Heap} (hs : ∀ q o, H.t.get q = some o → H'.t.get q = some o) {m zero kv x : LV} {ok : Bool} (h : lookupLV m H zero ok kv = some x) : lookupLV m H' zero ok kv = some x := by
  cases m with
  | nilmap => exact h
  | map p =>
    have h' : (ob (H.t.get p) fun o => ob o.asMap fun es => ob (findEnt kv es.1) fun r => @Option.rec Ent (fun _ => Option LV) (some (okPair ok zero false)) (fun e => some (okPair ok e.val true)) r) = some x := h
    obtain ⟨o, h1, h2⟩ := ob_some.1 h'
    exact ob_some.2 ⟨o, hs _ _ h1, h2⟩
  | _ => cases h
theorem lenMapLV_sub {H H' : Heap} (hs : ∀ q o, H.t.get q = some o → H'.t.get q = some o) {m x : LV} (h : lenMapLV m H = some x) : lenMapLV m H' = some x := by
  cases m with
  | nilmap => exact h
  | map p =>
    have h' : (ob (H.t.get p) fun o => ob o.asMap fun es => some (.int .i64 (.ofNat es.1.length))) = some x := h
    obtain ⟨o, h1, h2⟩ := ob_some.1 h'
    exact ob_some.2 ⟨o, hs _ _ h1, h2⟩
  | _ => cases h
theorem entryLV_sub {H H' : Heap} (hs : ∀ q o, H.t.get q = some o → H'.t.get q = some o) {m x : LV} (h : entryLV H m = some x) : entryLV H' m = some x := by
  unfold entryLV at h ⊢
  simp only [ob_some] at h ⊢
  obtain ⟨it, h1, o, h2, i, h3, p, h4, h5⟩ := h
  refine ⟨it, h1, o, hs _ _ h2, i, h3, p, h4, ?_⟩
  split at h5
  · cases h5
  · rename_i s l hl
    simp only [ob_some] at h5
    obtain ⟨o', h6, h7⟩ := h5
    simp only [ob_some]
    exact ⟨o', hs _ _ h6, h7⟩
/-- in a heap that holds more, what was read reads the same -/
theorem pureOp_sub {H H' : Heap} (hs : ∀ q o, H.t.get q = some o → H'.t.get q = some o) {po : POp} {T : Trie LV} {v : LV} {F : Facts} (h : pureOp F po T H = some v) : pureOp F po T H' = some v := by
  cases hd : heapDep (.p po) with
  | false => rw [← h]; exact (pureOp_heap hd T H H').symm
  | true =>
    cases po with
    | load1 a =>
      obtain ⟨p, h1, h2⟩ := ob_some.1 (show (ob (getO a T) fun p => load1 p H) = some v from h)
      exact ob_some.2 ⟨p, h1, load1_sub hs h2⟩
    | loadN n a =>
      obtain ⟨p, h1, h2⟩ := ob_some.1 (show (ob (getO a T) fun p => ob (loadRow p H n) fun cs => some (.agg cs)) = some v from h)
      obtain ⟨cs, h3, h4⟩ := ob_some.1 h2
      exact ob_some.2 ⟨p, h1, ob_some.2 ⟨cs, loadRow_sub hs h3, h4⟩⟩
    | bytesToStr a =>
      obtain ⟨p, h1, h2⟩ := ob_some.1 (show (ob (getO a T) fun a => bytesToStrLV a H) = some v from h)
      obtain ⟨c, h3, h4⟩ := ob_some.1 (show (ob (slCells p H 1) fun c => @Option.rec Nat (fun _ => Option LV) (ob (rowSE c.2) fun es => some (.sstr es)) (fun n => some (.str c.1 n)) (rowBytes 0 c.2)) = some v from h2)
      exact ob_some.2 ⟨p, h1, ob_some.2 ⟨c, slCells_sub hs h3, h4⟩⟩
    | sliceArr n sz a lo hi =>
      obtain ⟨p, h1, h2⟩ := ob_some.1 (show (ob (getO a T) fun a => ib (Nat.ble n maxCells) (ob (loadRow a H (Nat.succ (Nat.pred (Nat.mul n sz)))) fun _ => sliceArrLV a T n sz lo hi) none) = some v from h)
      rw [ib_some] at h2
      obtain ⟨h3, h4⟩ := h2
      obtain ⟨cs, h5, h6⟩ := ob_some.1 h4
      refine ob_some.2 ⟨p, h1, ?_⟩
      rw [ib_some]
      exact ⟨h3, ob_some.2 ⟨cs, loadRow_sub hs h5, h6⟩⟩
    | lookup kt zero ok m kx =>
      obtain ⟨kv, h1, h2⟩ := ob_some.1 (show (ob (getO kx T) fun kv => ib (keyOk kt kv) (ob (getO m T) fun m => lookupLV m H zero ok kv) none) = some v from h)
      rw [ib_some] at h2
      obtain ⟨h3, h4⟩ := h2
      obtain ⟨mv, h5, h6⟩ := ob_some.1 h4
      refine ob_some.2 ⟨kv, h1, ?_⟩
      rw [ib_some]
      exact ⟨h3, ob_some.2 ⟨mv, h5, lookupLV_sub hs h6⟩⟩
    | entry a =>
      obtain ⟨p, h1, h2⟩ := ob_some.1 (show (ob (getO a T) fun a => entryLV H a) = some v from h)
      exact ob_some.2 ⟨p, h1, entryLV_sub hs h2⟩
    | lenMap a =>
      obtain ⟨p, h1, h2⟩ := ob_some.1 (show (ob (getO a T) fun a => lenMapLV a H) = some v from h)
      exact ob_some.2 ⟨p, h1, lenMapLV_sub hs h2⟩
    | _ => cases hd

theorem pureOp_fs {F F' : Facts} {po : POp} {T : Trie LV} {H : Heap} {v : LV} (h : pureOp F po T H = some v) : pureOp F po T ⟨H.next, H.t, F'⟩ = some v := pureOp_sub (H := H) (H' := ⟨H.next, H.t, F'⟩) (fun _ _ h => h) h
end
end Go.LX

/- LX, part 37: what a plan's look says. -/
namespace Go.LX
section
variable {P : Program} {nt : Nat} {ops : Array Oper} {ds : List DOp}

/-- what comes ahead of an operation, in words -/
structure DsOk (P : Program) (nt : Nat) (ops : Array Oper) (ds : List DOp) : Prop where
  len : ds.length = ops.size
  op : ∀ (x : Nat) (d : DOp), ds[x]? = some d → ops[x]? = some d.o ∧ compOp P nt d.o = some d.lop ∧ grdOf nt ops d.o = some d.g ∧ dstOk nt d.o.dst = true ∧ (isE d.lop = false → d.o.dst.isSome = true)
  bef : ∀ (x : Nat) (d : DOp), ds[x]? = some d → ∀ i, hasBit d.bef i = true ↔ ∃ e ∈ d.o.after.toList, Region.binds .any e = true ∧ (e.on = i ∨ ∃ d' : DOp, ds[e.on]? = some d' ∧ e.on < x ∧ hasBit d'.bef i = true)
theorem dopsOf_spec (bs : List Nat) : ∀ {l : List (Oper × Nat)} {ds : List DOp}, dopsOf P nt ops bs l = some ds → ds.length = l.length ∧ ∀ (i : Nat) (o : Oper) (x : Nat), l[i]? = some (o, x) → ∃ d : DOp, ds[i]? = some d ∧ d.o = o ∧ compOp P nt o = some d.lop ∧ grdOf nt ops o = some d.g ∧ d.bef = bs.getD x 0 ∧ dstOk nt o.dst = true ∧ (isE d.lop = false → o.dst.isSome = true)
  | [], ds, h => by
    have h' : some [] = some ds := h
    cases h'; exact ⟨rfl, fun i o x h => by simp at h⟩
  | (o, x) :: r, ds, h => by
    simp only [dopsOf] at h
    split at h
    · rename_i l g ds' h1 h2 h3
      split at h
      · rename_i hc
        cases h
        obtain ⟨h4, h5⟩ := dopsOf_spec bs h3
        refine ⟨by simp [h4], fun i o' x' hi => ?_⟩
        cases i with
        | zero =>
          simp only [List.getElem?_cons_zero, Option.some.injEq, Prod.mk.injEq] at hi
          obtain ⟨rfl, rfl⟩ := hi
          simp only [Bool.and_eq_true, Bool.or_eq_true] at hc
          exact ⟨_, rfl, rfl, h1, h2, rfl, hc.1, fun he => hc.2.resolve_left (by rw [he]; simp)⟩
        | succ i =>
          obtain ⟨d, h6, h7⟩ := h5 i o' x' (by simpa using hi)
          exact ⟨d, by simpa using h6, h7⟩
      · cases h
    · cases h
theorem dsOk_of (h : dopsOf P nt ops (befores ops.toList []) ops.toList.zipIdx = some ds) : DsOk P nt ops ds := by
  obtain ⟨hlen, hspec⟩ := dopsOf_spec _ h
  obtain ⟨b1, _, b3⟩ := befores_get ops.toList []
  have hl : ds.length = ops.size := by rw [hlen]; simp
  have hget : ∀ (x : Nat) (d : DOp), ds[x]? = some d → ∃ o, ops.toList[x]? = some o ∧ d.o = o ∧ compOp P nt o = some d.lop ∧ grdOf nt ops o = some d.g ∧ (befores ops.toList [])[x]? = some d.bef ∧ dstOk nt o.dst = true ∧ (isE d.lop = false → o.dst.isSome = true) := by
    intro x d hd
    have hx : x < ops.size := by rw [← hl]; exact (List.getElem?_eq_some_iff.1 hd).1
    have hz : ops.toList.zipIdx[x]? = some (ops[x], x) := by simp [hx]
    obtain ⟨d', h1, h2, h3, h4, h5, h6, h7⟩ := hspec x _ _ hz
    rw [hd] at h1; cases h1
    refine ⟨ops[x], by simp [hx], h2, h3, h4, ?_, h6, h7⟩
    have hlt : x < (befores ops.toList []).length := by rw [b1]; simpa using hx
    rw [h5, List.getElem?_eq_getElem hlt, List.getD_eq_getElem?_getD, List.getElem?_eq_getElem hlt]; rfl
  refine ⟨hl, fun x d hd => ?_, fun x d hd i => ?_⟩
  · obtain ⟨o, h1, h2, h3, h4, _, h6, h7⟩ := hget x d hd
    subst h2
    exact ⟨by rw [← Array.getElem?_toList]; exact h1, h3, h4, h6, h7⟩
  · obtain ⟨o, h1, h2, _, _, h5, _⟩ := hget x d hd
    subst h2
    have h6 := b3 x d.o h1
    rw [List.length_nil, Nat.zero_add, h5] at h6
    injection h6 with h6
    rw [h6, bits_iff]
    have key : ∀ e : Edge, hasBit (((befores ops.toList []).take x).getD e.on 0) i = true ↔ ∃ d' : DOp, ds[e.on]? = some d' ∧ e.on < x ∧ hasBit d'.bef i = true := by
      intro e
      rw [List.getD_eq_getElem?_getD, List.getElem?_take]
      by_cases hlt : e.on < x
      · rw [if_pos hlt]
        constructor
        · intro hb
          have hx2 : e.on < ds.length := Nat.lt_trans hlt (List.getElem?_eq_some_iff.1 hd).1
          obtain ⟨_, _, _, _, _, h8, _⟩ := hget e.on _ (List.getElem?_eq_getElem hx2)
          rw [h8] at hb
          exact ⟨_, List.getElem?_eq_getElem hx2, hlt, hb⟩
        · rintro ⟨d', hd', _, hb⟩
          obtain ⟨_, _, _, _, _, h8, _⟩ := hget e.on d' hd'
          rw [h8]; exact hb
      · rw [if_neg hlt]
        constructor
        · intro hb; simp [hasBit_zero] at hb
        · rintro ⟨_, _, h, _⟩; exact absurd h hlt
    constructor
    · rintro ⟨e, he, hb, h7 | h7⟩
      · exact ⟨e, he, hb, .inl h7⟩
      · exact ⟨e, he, hb, .inr ((key e).1 h7)⟩
    · rintro ⟨e, he, hb, h7 | h7⟩
      · exact ⟨e, he, hb, .inl h7⟩
      · exact ⟨e, he, hb, .inr ((key e).2 h7)⟩

/-- the plan's order: each operation behind what comes ahead of it -/
inductive Reach (ds : List DOp) : Nat → Prop
  | zero : Reach ds 0
  | add {C x : Nat} {d : DOp} (h : Reach ds C) (hd : ds[x]? = some d) (hp : preOk d.bef C = true) : Reach ds (addBit C x)
theorem Reach.closed {C : Nat} (h : Reach ds C) : ∀ {x : Nat} {d : DOp}, hasBit C x = true → ds[x]? = some d → ∀ {i : Nat}, hasBit d.bef i = true → hasBit C i = true := by
  induction h with
  | zero => intro x d hx; rw [hasBit_zero] at hx; cases hx
  | add h hd hp ih =>
    intro x d hx hd' i hi
    rw [hasBit_add] at hx ⊢
    simp only [Bool.or_eq_true, decide_eq_true_eq] at hx ⊢
    rcases hx with hx | rfl
    · exact .inl (ih hx hd' hi)
    · rw [hd] at hd'; cases hd'
      exact .inl (preOk_spec hp hi)
theorem Reach.all {C : Nat} (h : Reach ds C) {S : Nat → Bool} (hS : ∀ (x : Nat) (d : DOp), ds[x]? = some d → (∀ i, hasBit d.bef i = true → S i = true) → S x = true) : ∀ {x : Nat}, hasBit C x = true → S x = true := by
  induction h with
  | zero => intro x hx; rw [hasBit_zero] at hx; cases hx
  | add h hd hp ih =>
    intro x hx
    rw [hasBit_add] at hx
    simp only [Bool.or_eq_true, decide_eq_true_eq] at hx
    rcases hx with hx | rfl
    · exact ih hx
    · exact hS _ _ hd fun i hi => ih (preOk_spec hp hi)
/-! the parts of the look -/
theorem blkOk_cons {eL : Option Nat} {x : Nat} {xs : List Nat} {C C1 : Nat} (h : blkOk ds eL (x :: xs) C = some C1) : ∃ d : DOp, ds[x]? = some d ∧ isE d.lop = false ∧ hasBit C x = false ∧ preOk d.bef C = true ∧ lateOk d.bef eL = true ∧ blkOk ds eL xs (addBit C x) = some C1 := by
  simp only [blkOk] at h
  split at h
  · rename_i d hd
    split at h
    · rename_i hc
      simp only [Bool.and_eq_true, Bool.not_eq_true', isIn] at hc
      exact ⟨d, hd, hc.1.1.1, hc.1.1.2, hc.1.2, hc.2, h⟩
    · cases h
  · cases h
theorem blkOk_spec {eL : Option Nat} : ∀ {xs : List Nat} {C C1 : Nat}, blkOk ds eL xs C = some C1 → (∀ i, hasBit C i = true → hasBit C1 i = true) ∧ (∀ (i : Nat) (d : DOp), hasBit C i = false → hasBit C1 i = true → ds[i]? = some d → lateOk d.bef eL = true) ∧ (Reach ds C → Reach ds C1)
  | [], C, C1, h => by
    have h' : some C = some C1 := h
    cases h'
    refine ⟨fun _ h => h, ?_, id⟩
    intro i d h1 h2
    rw [h1] at h2; cases h2
  | x :: xs, C, C1, h => by
    obtain ⟨d, hd, h1, h2, h3, h4, h5⟩ := blkOk_cons h
    obtain ⟨g1, g2, g3⟩ := blkOk_spec h5
    refine ⟨fun i hi => g1 i (by rw [hasBit_add, hi]; rfl), fun i d' hi hi1 hd' => ?_, fun hr => g3 (.add hr hd h3)⟩
    by_cases e : x = i
    · subst e; rw [hd] at hd'; cases hd'; exact h4
    · exact g2 i d' (by rw [hasBit_add, hi]; simp [e]) hi1 hd'
theorem stOk_cons {eL : Option Nat} {C J : Nat} {s : Stage} {r : List Stage} {fin : Option Nat × Nat × Nat} (h : stOk ds eL C J (s :: r) = some fin) :
    ∃ C1 e J1, blkOk ds eL s.blk C = some C1 ∧ ds[s.e]? = some e ∧ isE e.lop = true ∧ hasBit C1 s.e = false ∧ preOk e.bef C1 = true ∧ lateOk e.bef eL = true ∧ ckOk ds C1 e.bef s.ck = true ∧ aiOk ds C1 (some e.bef) s.ai J = some J1 ∧ stOk ds (some s.e) (addBit C1 s.e) J1 r = some fin := by
  simp only [stOk] at h
  split at h
  · rename_i C1 e h1 h2
    split at h
    · rename_i hc
      split at h
      · rename_i J1 h3
        simp only [Bool.and_eq_true, Bool.not_eq_true', isIn] at hc
        exact ⟨C1, e, J1, h1, h2, hc.1.1.1.1, hc.1.1.1.2, hc.1.1.2, hc.1.2, hc.2, h3, h⟩
      · cases h
    · cases h
  · cases h
/-- what has not been planned yet waits for a call or store that has not been made -/
theorem stOk_late {p : Plan} : ∀ {r : List Stage} {eL : Nat} {C J : Nat} {eF : Option Nat} {CF JF C1 : Nat}, stOk ds (some eL) C J r = some (eF, CF, JF) → blkOk ds eF p.blk CF = some C1 → (∀ (i : Nat) (d : DOp), ds[i]? = some d → hasBit C1 i = true) →
    ∀ (i : Nat) (d : DOp), ds[i]? = some d → hasBit C i = false → ∃ e, hasBit d.bef e = true ∧ (e = eL ∨ hasBit C e = false)
  | [], eL, C, J, eF, CF, JF, C1, h, hb, hall, i, d, hd, hi => by
    have h' : some (some eL, C, J) = some (eF, CF, JF) := h
    cases h'
    exact ⟨eL, (blkOk_spec hb).2.1 i d hi (hall i d hd) hd, .inl rfl⟩
  | s :: r, eL, C, J, eF, CF, JF, C1, h, hb, hall, i, d, hd, hi => by
    obtain ⟨C', e, J1, h1, h2, h3, h4, h5, h6, h7, h8, h9⟩ := stOk_cons h
    obtain ⟨g1, g2, _⟩ := blkOk_spec h1
    by_cases hi1 : hasBit C' i = true
    · exact ⟨eL, g2 i d hi hi1 hd, .inl rfl⟩
    · by_cases hie : s.e = i
      · subst hie
        rw [h2] at hd; cases hd
        exact ⟨eL, h6, .inl rfl⟩
      · have hi2 : hasBit (addBit C' s.e) i = false := by rw [hasBit_add]; simp [hi1, hie]
        obtain ⟨e', he', h10⟩ := stOk_late h9 hb hall i d hd hi2
        refine ⟨e', he', .inr ?_⟩
        have hCs : hasBit C s.e = false := by
          cases hx : hasBit C s.e with
          | false => rfl
          | true => rw [g1 _ hx] at h4; cases h4
        rcases h10 with rfl | h10
        · exact hCs
        · cases hx : hasBit C e' with
          | false => rfl
          | true => rw [hasBit_add, g1 _ hx] at h10; cases h10
theorem stOk_reach {p : Plan} : ∀ {r : List Stage} {eL : Option Nat} {C J : Nat} {fin : Option Nat × Nat × Nat}, stOk ds eL C J r = some fin → Reach ds C → Reach ds fin.2.1
  | [], eL, C, J, fin, h, hr => by have h' : some (eL, C, J) = some fin := h; cases h'; exact hr
  | s :: r, eL, C, J, fin, h, hr => by
    obtain ⟨C', e, J1, h1, h2, h3, h4, h5, h6, h7, h8, h9⟩ := stOk_cons h
    exact stOk_reach (p := p) h9 (.add ((blkOk_spec h1).2.2 hr) h2 h5)
theorem aiOk_cons {C : Nat} {bef : Option Nat} {x : Nat} {xs : List Nat} {J J1 : Nat} (h : aiOk ds C bef (x :: xs) J = some J1) : ∃ d : DOp, ds[x]? = some d ∧ isA d.lop = true ∧ hasBit C x = true ∧ hasBit J x = false ∧ (∀ b, bef = some b → hasBit b x = true) ∧ aiOk ds C bef xs (addBit J x) = some J1 := by
  cases hd : ds[x]? with
  | none => simp only [aiOk, hd] at h; cases h
  | some d =>
    cases bef with
    | none =>
      simp only [aiOk, hd] at h
      split at h
      · rename_i hc
        simp only [Bool.and_eq_true, Bool.not_eq_true', isIn] at hc
        exact ⟨d, rfl, hc.1.1.1, hc.1.1.2, hc.1.2, fun b hb => (by cases hb), h⟩
      · cases h
    | some b =>
      simp only [aiOk, hd] at h
      split at h
      · rename_i hc
        simp only [Bool.and_eq_true, Bool.not_eq_true', isIn] at hc
        exact ⟨d, rfl, hc.1.1.1, hc.1.1.2, hc.1.2, fun b' hb => (by cases hb; exact hc.2), h⟩
      · cases h
theorem ckOk_spec {C b : Nat} {ck : List Nat} (h : ckOk ds C b ck = true) : (∀ x ∈ ck, hasBit C x = true ∧ ∃ d : DOp, ds[x]? = some d ∧ heapDep d.lop = true) ∧ ∀ (x : Nat) (d : DOp), ds[x]? = some d → hasBit C x = true → heapDep d.lop = true → hasBit b x = false → x ∈ ck := by
  simp only [ckOk, Bool.and_eq_true, isIn] at h
  obtain ⟨h1, h2⟩ := h
  refine ⟨fun x hx => ?_, fun x d hd hc hh hb => ?_⟩
  · have := List.all_eq_true.1 h1 x hx
    simp only [Bool.and_eq_true] at this
    refine ⟨this.1, ?_⟩
    have h3 := this.2
    split at h3
    · rename_i d hd; exact ⟨d, hd, h3⟩
    · cases h3
  · have hm : (d, x) ∈ ds.zipIdx := by rw [List.mem_zipIdx_iff_getElem?]; exact hd
    have := List.all_eq_true.1 h2 (d, x) hm
    simp only [hc, hh, hb, Bool.not_true, Bool.false_or, List.contains_iff_mem] at this
    simpa using this
end
end Go.LX

/- LX, part 38: regions that draw their order: the state between two operations. -/
namespace Go.LX
section
variable {P : Program} {nt : Nat} {ops : Array Oper} {ds : List DOp}

/-- a guard's say -/
def GOn (g : Option (Pos × Bool)) (T : Trie LV) : Prop := match g with
  | none => True
  | some (p, w) => T.get p = some (.bool w)
def GOff (g : Option (Pos × Bool)) (T : Trie LV) : Prop := match g with
  | none => False
  | some (p, w) => T.get p = some (.bool (!w)) ∨ T.get p = some (.tup [])
theorem gq_true {g : Option (Pos × Bool)} {T : Trie LV} {x y : Bool} (h : gq g T x y = true) : (GOn g T ∧ x = true) ∨ (GOff g T ∧ y = true) := by
  cases g with
  | none => exact .inl ⟨trivial, h⟩
  | some pw =>
    obtain ⟨p, w⟩ := pw
    have h' : (bb (T.get p) fun c => grdLV c w x y) = true := h
    obtain ⟨c, hc, h2⟩ := bb_true.1 h'
    cases c with
    | bool b =>
      have h3 : ib b (ib w x y) (ib w y x) = true := h2
      cases b <;> cases w
      · exact .inl ⟨hc, h3⟩
      · exact .inr ⟨.inl hc, h3⟩
      · exact .inr ⟨.inl hc, h3⟩
      · exact .inl ⟨hc, h3⟩
    | tup vs =>
      have h3 : ib (isNilL vs) y false = true := h2
      rw [ib_ff] at h3
      cases vs with
      | nil => exact .inr ⟨.inr hc, h3.2⟩
      | cons v vs => cases h3.1
    | _ => cases h2
theorem GOn.not_off {g : Option (Pos × Bool)} {T : Trie LV} (h : GOn g T) (h' : GOff g T) : False := by
  cases g with
  | none => exact h'
  | some pw =>
    obtain ⟨p, w⟩ := pw
    have h1 : T.get p = some (.bool w) := h
    rcases h' with h2 | h2
    · rw [h1] at h2; injection h2 with h2; injection h2 with h2; cases w <;> cases h2
    · rw [h1] at h2; cases h2

/-- operation x writes t -/
def Wr (ds : List DOp) (x t : Nat) : Prop := ∃ d : DOp, ds[x]? = some d ∧ d.o.dst = some t
def Uniq (ds : List DOp) : Prop := ∀ x y t, Wr ds x t → Wr ds y t → x = y
/-- what an operation looks at has been written ahead of it, or will be written behind it -/
def Looks (ops : Array Oper) (ds : List DOp) : Prop := ∀ (x : Nat) (d : DOp), ds[x]? = some d → ∀ t ∈ d.o.looksAt ops, ∀ (y : Nat) (d' : DOp), ds[y]? = some d' → d'.o.dst = some t →
  hasBit d.bef y = true ∨ (hasBit d'.bef x = true ∧ heapDep d.lop = false ∧ isA d.lop = false)
theorem nodup_uniq : ∀ {ds : List DOp}, nodupB (ds.flatMap dstT) = true → Uniq ds
  | [], _, x, y, t, ⟨d, h, _⟩, _ => by simp at h
  | d :: ds, h, x, y, t, hx, hy => by
    have hsplit : ∀ {l r : List Nat}, nodupB (l ++ r) = true → nodupB r = true ∧ ∀ a ∈ l, a ∉ r := by
      intro l
      induction l with
      | nil => intro r h; exact ⟨h, fun a ha => by cases ha⟩
      | cons a l ih =>
        intro r h
        simp only [List.cons_append, nodupB, Bool.and_eq_true, Bool.not_eq_true'] at h
        obtain ⟨h1, h2⟩ := ih h.2
        refine ⟨h1, fun b hb => ?_⟩
        rcases List.mem_cons.1 hb with rfl | hb
        · intro hr
          have : (l ++ r).contains b = true := by simp [hr]
          rw [this] at h; cases h.1
        · exact h2 b hb
    rw [List.flatMap_cons] at h
    obtain ⟨h1, h2⟩ := hsplit h
    have hin : ∀ z, Wr ds z t → t ∈ ds.flatMap dstT := fun z ⟨d', hz, ht⟩ => List.mem_flatMap.2 ⟨d', List.mem_of_getElem? hz, by simp [dstT, ht]⟩
    cases x with
    | zero =>
      cases y with
      | zero => rfl
      | succ y =>
        obtain ⟨d1, hd1, ht1⟩ := hx
        obtain ⟨d2, hd2, ht2⟩ := hy
        simp only [List.getElem?_cons_zero, Option.some.injEq] at hd1
        subst hd1
        exact absurd (hin y ⟨d2, by simpa using hd2, ht2⟩) (h2 t (by simp [dstT, ht1]))
    | succ x =>
      cases y with
      | zero =>
        obtain ⟨d1, hd1, ht1⟩ := hx
        obtain ⟨d2, hd2, ht2⟩ := hy
        simp only [List.getElem?_cons_zero, Option.some.injEq] at hd2
        subst hd2
        exact absurd (hin x ⟨d1, by simpa using hd1, ht1⟩) (h2 t (by simp [dstT, ht2]))
      | succ y =>
        obtain ⟨d1, hd1, ht1⟩ := hx
        obtain ⟨d2, hd2, ht2⟩ := hy
        rw [nodup_uniq h1 x y t ⟨d1, by simpa using hd1, ht1⟩ ⟨d2, by simpa using hd2, ht2⟩]
theorem looks_of (h : (ds.zipIdx.all fun (d, x) => looksOk ds ops x d) = true) : Looks ops ds := by
  intro x d hd t ht y d' hd' hdst
  have h1 := List.all_eq_true.1 h (d, x) (by rw [List.mem_zipIdx_iff_getElem?]; exact hd)
  simp only [looksOk] at h1
  have h2 := List.all_eq_true.1 h1 t ht
  have h3 := List.all_eq_true.1 h2 (d', y) (by rw [List.mem_zipIdx_iff_getElem?]; exact hd')
  have hc : (dstT d').contains t = true := by simp [dstT, hdst]
  simp only [hc, Bool.not_true, Bool.false_or, Bool.or_eq_true, Bool.and_eq_true, Bool.not_eq_true'] at h3
  rcases h3 with h3 | h3
  · exact .inl h3
  · exact .inr ⟨h3.1.1, h3.1.2, h3.2⟩

section
variable (ops ds) (base : Pos) (T₀ : Trie LV) (φ : Phi)
/-- the name of the block that x makes -/
noncomputable def nm (x : Nat) : Pos := posAdd base (newNo ds x)
/-- what x saw, as it was planned -/
def Agree (x : Nat) (d : DOp) (Tx T : Trie LV) : Prop := ∀ t ∈ d.o.looksAt ops, ∀ v, Tx.get (posOf t) = some v →
  (T.get (posOf t) = some v ∧ ∀ y, Wr ds y t → hasBit d.bef y = true) ∨ (T₀.get (posOf t) = some v ∧ (heapDep d.lop = false ∧ isA d.lop = false) ∧ ∀ (y : Nat) (d' : DOp), ds[y]? = some d' → d'.o.dst = some t → hasBit d'.bef x = true)
/-- planned, but not carried out -/
def Pl (x : Nat) (d : DOp) (T : Trie LV) (H : Heap) : Prop := ∃ t Tx, d.o.dst = some t ∧ Agree ops ds T₀ x d Tx T ∧ ((GOff d.g Tx ∧ T.get (posOf t) = some unitLV) ∨ (GOn d.g Tx ∧ ∃ v, T.get (posOf t) = some v ∧
  ((∃ po v0 F, d.lop = .p po ∧ pureOp F po Tx H = some v0 ∧ FactsOk φ F ∧ v = norm v0 F v0) ∨ (∃ mo ob, d.lop = .m mo ∧ isA d.lop = true ∧ aVal mo (nm ds base x) = some v ∧ aObj mo Tx = some ob))))
/-- carried out, but not told -/
def AEx (x : Nat) (d : DOp) (T : Trie LV) (L : Pos → Option LO) : Prop := ∃ Tx, Agree ops ds T₀ x d Tx T ∧ (GOff d.g Tx ∨ (GOn d.g Tx ∧ ∃ mo ob, d.lop = .m mo ∧ aObj mo Tx = some ob ∧ L (nm ds base x) = some ob))
end

structure Inv (P : Program) (nt : Nat) (ops : Array Oper) (ds : List DOp) (base : Pos) (T₀ : Trie LV) (φ₀ : Phi) (H₀ : Heap) (w₀ : World) (D : List LDef) (C J : Nat) (T : Trie LV) (H : Heap) (L : Pos → Option LO) (S : Nat → Bool) (φ : Phi) (a : Act) (w : World) : Prop where
  stp : StpL P φ₀ H₀ w₀ φ H L w
  next : (nm ds base ds.length).toNat ≤ H.next.toNat
  sub : ∀ x, S x = true → hasBit C x = true
  ees : ∀ (x : Nat) (d : DOp), ds[x]? = some d → isE d.lop = true → hasBit C x = true → S x = true
  cls : ∀ (x : Nat) (d : DOp), ds[x]? = some d → S x = true → ∀ i, hasBit d.bef i = true → S i = true
  reach : Reach ds C
  old : ∀ t, (∀ x, Wr ds x t → hasBit C x = false) → T.get (posOf t) = T₀.get (posOf t)
  tm1 : ∀ t v, T.get (posOf t) = some v → (∀ x, Wr ds x t → S x = true) → ∃ vv, a.tmps[t]? = some vv ∧ Rel φ v vv
  tm0 : ∀ t v, T₀.get (posOf t) = some v → (∀ x, Wr ds x t → S x = false) → ∃ vv, a.tmps[t]? = some vv ∧ Rel φ v vv
  size : nt ≤ a.tmps.size
  defs : DefsRel φ D a.defers
  pl : ∀ (x : Nat) (d : DOp), ds[x]? = some d → isE d.lop = false → hasBit C x = true → S x = false → Pl ops ds base T₀ φ x d T H
  anone : ∀ (x : Nat) (d : DOp), ds[x]? = some d → isA d.lop = true → S x = false → φ (nm ds base x) = none
  aex : ∀ (x : Nat) (d : DOp), ds[x]? = some d → isA d.lop = true → S x = true → hasBit J x = false → AEx ops ds base T₀ x d T L

section
variable {base : Pos} {T₀ : Trie LV} {φ₀ : Phi} {H₀ : Heap} {w₀ : World} {D : List LDef} {C J : Nat} {T : Trie LV} {H : Heap} {L : Pos → Option LO} {S : Nat → Bool} {φ : Phi} {a : Act} {w : World}

theorem Pl.mono {φ φ' : Phi} (hle : φ.le φ') {x : Nat} {d : DOp} {T : Trie LV} {H : Heap} (h : Pl ops ds base T₀ φ x d T H) : Pl ops ds base T₀ φ' x d T H := by
  obtain ⟨t, Tx, h1, h2, h3⟩ := h
  exact ⟨t, Tx, h1, h2, h3.imp id fun ⟨h4, v, h5, h6⟩ => ⟨h4, v, h5, h6.imp (fun ⟨po, v0, F, h7, h8, h9, h10⟩ => ⟨po, v0, F, h7, h8, h9.mono hle, h10⟩) id⟩⟩
theorem Agree.put {x x1 : Nat} {d d1 : DOp} {t1 : Nat} {v1 : LV} {Tx T : Trie LV} (h : Agree ops ds T₀ x d Tx T) (hC : ∀ i, hasBit d.bef i = true → hasBit C i = true) (hx1 : hasBit C x1 = false) (hd1 : ds[x1]? = some d1) (ht1 : d1.o.dst = some t1) :
    Agree ops ds T₀ x d Tx (T.put (some v1) (posOf t1)) := by
  intro t ht v hv
  rcases h t ht v hv with ⟨h1, h2⟩ | h1
  · left
    refine ⟨?_, h2⟩
    rw [Trie.get_put, if_neg]
    · exact h1
    · intro e
      have e := posOf_inj e
      subst e
      have := hC x1 (h2 x1 ⟨d1, hd1, ht1⟩)
      rw [this] at hx1; cases hx1
  · exact .inr h1
/-- what x sees, as it is planned -/
theorem Inv.asm (hi : Inv P nt ops ds base T₀ φ₀ H₀ w₀ D C J T H L S φ a w) {F : Facts} (hF : FactsOk φ F) : Inv P nt ops ds base T₀ φ₀ H₀ w₀ D C J T ⟨H.next, H.t, F⟩ L S φ a w := by
  refine ⟨hi.stp.asm hF, hi.next, hi.sub, hi.ees, hi.cls, hi.reach, hi.old, hi.tm1, hi.tm0, hi.size, hi.defs, fun y d' hd' hE hC hS => ?_, hi.anone, hi.aex⟩
  obtain ⟨t, Tx, h1, h2, h3⟩ := hi.pl y d' hd' hE hC hS
  exact ⟨t, Tx, h1, h2, h3.imp id fun ⟨h4, v, h5, h6⟩ => ⟨h4, v, h5, h6.imp (fun ⟨po, v0, F', h7, h8, h9, h10⟩ => ⟨po, v0, F', h7, pureOp_fs h8, h9, h10⟩) id⟩⟩
theorem Inv.agree (hi : Inv P nt ops ds base T₀ φ₀ H₀ w₀ D C J T H L S φ a w) (hl : Looks ops ds) (hu : Uniq ds) {x : Nat} {d : DOp} (hd : ds[x]? = some d) (hx : hasBit C x = false) : Agree ops ds T₀ x d T T := by
  intro t ht v hv
  by_cases hall : ∀ (y : Nat) (d' : DOp), ds[y]? = some d' → d'.o.dst = some t → hasBit d.bef y = true
  · exact .inl ⟨hv, fun y ⟨d', h1, h2⟩ => hall y d' h1 h2⟩
  · right
    have hno : ∀ (y : Nat) (d' : DOp), ds[y]? = some d' → d'.o.dst = some t → hasBit d.bef y = true ∨ hasBit d'.bef x = true := fun y d' h1 h2 => (hl x d hd t ht y d' h1 h2).imp id (·.1)
    obtain ⟨y, hy⟩ := Classical.not_forall.1 hall
    obtain ⟨d', hy⟩ := Classical.not_forall.1 hy
    simp only [Classical.not_imp] at hy
    obtain ⟨h1, h2, h3⟩ := hy
    have h4 : hasBit d'.bef x = true := (hno y d' h1 h2).resolve_left h3
    have h5 := ((hl x d hd t ht y d' h1 h2).resolve_left h3).2
    have hyC : hasBit C y = false := by
      cases hx2 : hasBit C y with
      | false => rfl
      | true => rw [hi.reach.closed hx2 h1 h4] at hx; cases hx
    have hold := hi.old t fun z hz => by rw [hu z y t hz ⟨d', h1, h2⟩]; exact hyC
    refine ⟨by rw [← hold]; exact hv, h5, fun z dz hz1 hz2 => ?_⟩
    have e := hu z y t ⟨dz, hz1, hz2⟩ ⟨d', h1, h2⟩
    subst e
    rw [h1] at hz1; cases hz1
    exact h4
/-- one more is planned -/
theorem Inv.plan (hi : Inv P nt ops ds base T₀ φ₀ H₀ w₀ D C J T H L S φ a w) (hu : Uniq ds) {x : Nat} {d : DOp} (hd : ds[x]? = some d) (hx : hasBit C x = false) (hE : isE d.lop = false) (hp : preOk d.bef C = true) {t : Nat} (ht : d.o.dst = some t) {v : LV}
    (hpl : Pl ops ds base T₀ φ x d (T.put (some v) (posOf t)) H) : Inv P nt ops ds base T₀ φ₀ H₀ w₀ D (addBit C x) J (T.put (some v) (posOf t)) H L S φ a w := by
  have hS : S x = false := by
    cases hs : S x with
    | false => rfl
    | true => rw [hi.sub x hs] at hx; cases hx
  have hget : ∀ t', t' ≠ t → (T.put (some v) (posOf t)).get (posOf t') = T.get (posOf t') := fun t' hne => by
    rw [Trie.get_put, if_neg fun e => hne (posOf_inj e)]
  refine ⟨hi.stp, hi.next, fun y hy => by rw [hasBit_add, hi.sub y hy]; rfl, fun y d' hd' hE' hC => ?_, hi.cls, .add hi.reach hd hp, fun t' hno => ?_, fun t' v' hv' hall => ?_, hi.tm0, hi.size, hi.defs, fun y d' hd' hE' hC hS' => ?_, hi.anone, fun y d' hd' hA hS' hJ => ?_⟩
  · rw [hasBit_add] at hC
    simp only [Bool.or_eq_true, decide_eq_true_eq] at hC
    rcases hC with hC | rfl
    · exact hi.ees y d' hd' hE' hC
    · rw [hd] at hd'; cases hd'; rw [hE] at hE'; cases hE'
  · have hne : t' ≠ t := fun e => by
      have := hno x ⟨d, hd, by rw [ht, e]⟩
      rw [hasBit_add] at this; simp at this
    rw [hget t' hne]
    refine hi.old t' fun y hy => ?_
    have := hno y hy
    rw [hasBit_add] at this
    simp only [Bool.or_eq_false_iff] at this
    exact this.1
  · have hne : t' ≠ t := fun e => by
      have := hall x ⟨d, hd, by rw [ht, e]⟩
      rw [hS] at this; cases this
    rw [hget t' hne] at hv'
    exact hi.tm1 t' v' hv' hall
  · rw [hasBit_add] at hC
    simp only [Bool.or_eq_true, decide_eq_true_eq] at hC
    rcases hC with hC | rfl
    · obtain ⟨ty, Ty, h1, h2, h3⟩ := hi.pl y d' hd' hE' hC hS'
      have hne : ty ≠ t := fun e => by
        have := hu x y t ⟨d, hd, ht⟩ ⟨d', hd', by rw [h1, e]⟩
        subst this; rw [hC] at hx; cases hx
      refine ⟨ty, Ty, h1, h2.put (fun i hb => hi.reach.closed hC hd' hb) hx hd ht, ?_⟩
      rw [hget ty hne]
      exact h3
    · rw [hd] at hd'; cases hd'; exact hpl
  · obtain ⟨Ty, h1, h2⟩ := hi.aex y d' hd' hA hS' hJ
    exact ⟨Ty, h1.put (fun i hb => hi.reach.closed (hi.sub y hS') hd' hb) hx hd ht, h2⟩
/-- one more is carried out -/
theorem Inv.exec (hi : Inv P nt ops ds base T₀ φ₀ H₀ w₀ D C J T H L S φ a w) (hu : Uniq ds) {x : Nat} {d : DOp} (hd : ds[x]? = some d) (hx : hasBit C x = true) (hE : isE d.lop = false) (hbef : ∀ i, hasBit d.bef i = true → S i = true) {t : Nat} (ht : d.o.dst = some t) (htn : t < nt)
    {v : LV} {vv : Value} (hv : T.get (posOf t) = some v) {φ' : Phi} {L' : Pos → Option LO} {w' : World} (hstp : StpL P φ₀ H₀ w₀ φ' H L' w') (hle : φ.le φ') (hr : Rel φ' v vv)
    (hL : ∀ p o, L p = some o → L' p = some o) (han : ∀ (y : Nat) (d' : DOp), ds[y]? = some d' → isA d'.lop = true → y ≠ x → S y = false → φ' (nm ds base y) = none) (hax : isA d.lop = true → hasBit J x = false → AEx ops ds base T₀ x d T L') :
    Inv P nt ops ds base T₀ φ₀ H₀ w₀ D C J T H L' (fun y => decide (y = x) || S y) φ' (a.put (some t) vv) w' := by
  have hlt : t < a.tmps.size := Nat.lt_of_lt_of_le htn hi.size
  have htm : ∀ t', t' ≠ t → (a.put (some t) vv).tmps[t']? = a.tmps[t']? := fun t' hne => by
    simp only [Act.put]; rw [Array.getElem?_setIfInBounds_ne (Ne.symm hne)]
  refine ⟨hstp, hi.next, fun y hy => ?_, fun y d' hd' hE' hC => by rw [hi.ees y d' hd' hE' hC]; simp, fun y d' hd' hy i hb => ?_, hi.reach, hi.old, fun t' v' hv' hall => ?_, fun t' v' hv' hall => ?_, by simpa [Act.put] using hi.size, hi.defs.mono hle, fun y d' hd' hE' hC hS' => ?_, fun y d' hd' hA hS' => ?_, fun y d' hd' hA hS' hJ => ?_⟩
  · simp only [Bool.or_eq_true, decide_eq_true_eq] at hy
    rcases hy with rfl | hy
    · exact hx
    · exact hi.sub y hy
  · simp only [Bool.or_eq_true, decide_eq_true_eq] at hy ⊢
    rcases hy with rfl | hy
    · rw [hd] at hd'; cases hd'; exact .inr (hbef i hb)
    · exact .inr (hi.cls y d' hd' hy i hb)
  · by_cases e : t' = t
    · subst e
      rw [hv] at hv'; cases hv'
      exact ⟨vv, by simp [Act.put, hlt], hr⟩
    · rw [htm t' e]
      obtain ⟨u, h1, h2⟩ := hi.tm1 t' v' hv' fun y hy => by
        have h3 := hall y hy
        simp only [Bool.or_eq_true, decide_eq_true_eq] at h3
        rcases h3 with rfl | h3
        · obtain ⟨d', h4, h5⟩ := hy
          rw [hd] at h4; cases h4
          rw [ht] at h5; cases h5
          exact absurd rfl e
        · exact h3
      exact ⟨u, h1, h2.mono hle⟩
  · have e : t' ≠ t := fun e => by
      have := hall x ⟨d, hd, by rw [ht, e]⟩
      simp at this
    rw [htm t' e]
    obtain ⟨u, h1, h2⟩ := hi.tm0 t' v' hv' fun y hy => by
      have := hall y hy
      simp only [Bool.or_eq_false_iff] at this
      exact this.2
    exact ⟨u, h1, h2.mono hle⟩
  · simp only [Bool.or_eq_false_iff] at hS'
    exact (hi.pl y d' hd' hE' hC hS'.2).mono hle
  · simp only [Bool.or_eq_false_iff, decide_eq_false_iff_not] at hS'
    exact han y d' hd' hA hS'.1 hS'.2
  · simp only [Bool.or_eq_true, decide_eq_true_eq] at hS'
    by_cases e : y = x
    · subst e; rw [hd] at hd'; cases hd'; exact hax hA hJ
    · obtain ⟨Ty, h1, h2⟩ := hi.aex y d' hd' hA (hS'.resolve_left e) hJ
      refine ⟨Ty, h1, h2.imp id fun ⟨h3, mo, ob, h4, h5, h6⟩ => ⟨h3, mo, ob, h4, h5, hL _ _ h6⟩⟩
end
end
end Go.LX

/- LX, part 39: regions that draw their order: values and new blocks, carried out. -/
namespace Go.LX
section
variable {P : Program} {nt : Nat} {ops : Array Oper} {ds : List DOp} {base : Pos} {T₀ : Trie LV} {φ₀ : Phi} {H₀ : Heap} {w₀ : World} {D : List LDef} {C J : Nat} {T : Trie LV} {H : Heap} {L : Pos → Option LO} {S : Nat → Bool} {φ : Phi} {a : Act} {w : World}

theorem posAdd_toNat (p : Pos) : ∀ n, (posAdd p n).toNat = p.toNat + n
  | 0 => rfl
  | n+1 => by
    have : posAdd p (n+1) = (posAdd p n).succ := rfl
    rw [this, Pos.succ_toNat, posAdd_toNat p n]; omega
theorem newNo_succ {x : Nat} {d : DOp} (hd : ds[x]? = some d) : newNo ds (x + 1) = newNo ds x + (if isA d.lop = true then 1 else 0) := by
  unfold newNo
  rw [List.take_add_one, hd]
  simp only [Option.toList_some, List.filter_append, List.length_append]
  by_cases h : isA d.lop = true <;> simp [h]
theorem newNo_mono {x y : Nat} (h : x ≤ y) : newNo ds x ≤ newNo ds y := by
  unfold newNo
  have : ds.take x = (ds.take y).take x := by rw [List.take_take, Nat.min_eq_left h]
  rw [this]
  exact (List.Sublist.filter _ (List.take_sublist _ _)).length_le
theorem newNo_lt {x y : Nat} {d : DOp} (hd : ds[x]? = some d) (hA : isA d.lop = true) (h : x < y) : newNo ds x < newNo ds y := by
  have h1 := newNo_succ hd
  rw [if_pos hA] at h1
  have h2 := newNo_mono (ds := ds) (x := x + 1) (y := y) h
  omega
theorem nm_ne {x y : Nat} {d d' : DOp} (hd : ds[x]? = some d) (hA : isA d.lop = true) (hd' : ds[y]? = some d') (hA' : isA d'.lop = true) (h : y ≠ x) : nm ds base y ≠ nm ds base x := by
  intro e
  have e := congrArg Pos.toNat e
  simp only [nm, posAdd_toNat] at e
  rcases Nat.lt_or_gt_of_ne h with h1 | h1
  · have := newNo_lt hd' hA' h1; omega
  · have := newNo_lt hd hA h1; omega
theorem nm_lt {x : Nat} {d : DOp} (hd : ds[x]? = some d) (hA : isA d.lop = true) : (nm ds base x).toNat < (nm ds base ds.length).toNat := by
  simp only [nm, posAdd_toNat]
  have := newNo_lt hd hA (List.getElem?_eq_some_iff.1 hd).1
  omega
theorem getO_const {lo : LOpd} {T T' : Trie LV} {x : Operand} (h : opd nt x = some lo) (hx : ∀ t, x ≠ .tmp t) : getO lo T = getO lo T' := by
  cases x with
  | tmp t => exact absurd rfl (hx t)
  | const v =>
    have h' : (ofValue 50 v).map LOpd.c = some lo := h
    simp only [Option.map_eq_some_iff] at h'
    obtain ⟨y, _, rfl⟩ := h'
    rfl
  | func f =>
    have h' : some (LOpd.c (.func (posOf f) [])) = some lo := h
    cases h'; rfl
  | global g => cases h
theorem opd_tmp {lo : LOpd} {t : Nat} (h : opd nt (.tmp t) = some lo) : lo = .t (posOf t) := by
  have h' : (if t < nt then some (LOpd.t (posOf t)) else none) = some lo := h
  split at h'
  · cases h'; rfl
  · cases h'
/-- the frame's temporaries say what x saw -/
theorem Inv.tmp (hi : Inv P nt ops ds base T₀ φ₀ H₀ w₀ D C J T H L S φ a w) {x : Nat} {d : DOp} {Tx : Trie LV} (hag : Agree ops ds T₀ x d Tx T) (hS : S x = false) (hbef : ∀ i, hasBit d.bef i = true → S i = true) {t : Nat} (ht : t ∈ d.o.looksAt ops) {v : LV} (hv : Tx.get (posOf t) = some v) :
    ∃ vv, a.tmps[t]? = some vv ∧ Rel φ v vv := by
  rcases hag t ht v hv with ⟨h1, h2⟩ | ⟨h1, _, h2⟩
  · exact hi.tm1 t v h1 fun y hy => hbef y (h2 y hy)
  · refine hi.tm0 t v h1 fun y ⟨d', h3, h4⟩ => ?_
    cases hs : S y with
    | false => rfl
    | true => rw [hi.cls y d' h3 hs x (h2 y d' h3 h4)] at hS; cases hS
theorem Inv.opd (hi : Inv P nt ops ds base T₀ φ₀ H₀ w₀ D C J T H L S φ a w) {x : Nat} {d : DOp} {Tx : Trie LV} (hag : Agree ops ds T₀ x d Tx T) (hS : S x = false) (hbef : ∀ i, hasBit d.bef i = true → S i = true) : OpdOk φ nt Tx a.eval d.o.op.operands.toList := by
  intro y hy lo lv h1 h2
  cases y with
  | tmp t =>
    rw [opd_tmp h1] at h2
    have ht : t ∈ d.o.looksAt ops := List.mem_append_left _ (List.mem_filterMap.2 ⟨.tmp t, hy, rfl⟩)
    obtain ⟨vv, h3, h4⟩ := hi.tmp hag hS hbef ht (v := lv) h2
    show Rel φ lv (a.tmps.getD t undef)
    rw [getD_of h3]; exact h4
  | const v => exact opdOk_of (T := .lf) (a := a) trel_lf [.const v] _ (by simp) lo lv h1 (by rw [getO_const (T' := Tx) h1 (by simp)]; exact h2)
  | func f => exact opdOk_of (T := .lf) (a := a) trel_lf [.func f] _ (by simp) lo lv h1 (by rw [getO_const (T' := Tx) h1 (by simp)]; exact h2)
  | global g => cases h1
theorem Inv.grd (hi : Inv P nt ops ds base T₀ φ₀ H₀ w₀ D C J T H L S φ a w) {x : Nat} {d : DOp} {Tx : Trie LV} (hag : Agree ops ds T₀ x d Tx T) (hS : S x = false) (hbef : ∀ i, hasBit d.bef i = true → S i = true) (hg : grdOf nt ops d.o = some d.g) :
    (GOn d.g Tx → Region.wanted d.o (yielded ops a.tmps) = true) ∧ (GOff d.g Tx → Region.wanted d.o (yielded ops a.tmps) = false) := by
  unfold grdOf at hg
  split at hg
  · rename_i hn
    have hg := Option.some.inj hg
    rw [← hg]
    exact ⟨fun _ => by simp [Region.wanted, hn], fun h => h.elim⟩
  · rename_i j wb hj
    split at hg
    · rename_i oj hoj
      split at hg
      · rename_i t hdst
        split at hg
        · have hg := Option.some.inj hg
          rw [← hg]
          have ht : t ∈ d.o.looksAt ops := by
            refine List.mem_append_right _ ?_
            simp [hj, hoj, hdst]
          have hwn : Region.wanted d.o (yielded ops a.tmps) = (yielded ops a.tmps j == some wb) := by simp only [Region.wanted, hj]
          have key : ∀ {v : LV}, Tx.get (posOf t) = some v → ∃ vv, a.tmps[t]? = some vv ∧ Rel φ v vv ∧ yielded ops a.tmps j = (match (some vv : Option Value) with | some (.bool b) => some b | _ => none) := by
            intro v hv
            obtain ⟨vv, h1, h2⟩ := hi.tmp hag hS hbef ht hv
            refine ⟨vv, h1, h2, ?_⟩
            simp only [yielded, hoj, hdst, Option.bind_some, h1]
            rfl
          refine ⟨fun h => ?_, fun h => ?_⟩
          · obtain ⟨vv, h1, h2, h3⟩ := key h
            rw [hwn, h3, rel_bool h2]; simp
          · rcases h with h | h
            · obtain ⟨vv, h1, h2, h3⟩ := key h
              rw [hwn, h3, rel_bool h2]; cases wb <;> rfl
            · obtain ⟨vv, h1, h2, h3⟩ := key h
              obtain ⟨xs, e, _⟩ := rel_tup h2
              rw [hwn, h3, e]; rfl
        · cases hg
      · cases hg
    · cases hg
theorem isA_m {l : LOp} (h : isA l = true) : ∃ mo, l = .m mo := by cases l with | m mo => exact ⟨mo, rfl⟩ | _ => cases h
/-- a value, or a new block: one that has been planned is carried out -/
theorem Inv.run1 (hi : Inv P nt ops ds base T₀ φ₀ H₀ w₀ D C J T H L S φ a w) (hok : DsOk P nt ops ds) (hu : Uniq ds) (hbase : H₀.next = base) {x : Nat} {d : DOp} (hd : ds[x]? = some d) (hE : isE d.lop = false) (hC : hasBit C x = true) (hS : S x = false) (hbef : ∀ i, hasBit d.bef i = true → S i = true)
    (b : Frame) (rest : List Nat) (k : List Item) (cs : List Frame) :
    ∃ φ' a' w' L', step P (lone (b.atR a (.inRegion ops (x :: rest) :: k)) cs w) = .next (lone (b.atR a' (.inRegion ops rest :: k)) cs w') ∧ Inv P nt ops ds base T₀ φ₀ H₀ w₀ D C J T H L' (fun y => decide (y = x) || S y) φ' a' w' := by
  obtain ⟨hop, hcomp, hgrd, hdst, _⟩ := hok.op x d hd
  obtain ⟨t, Tx, ht, hag, h⟩ := hi.pl x d hd hE hC hS
  have htn : t < nt := by rw [ht] at hdst; simpa [dstOk] using hdst
  obtain ⟨hon, hoff⟩ := hi.grd hag hS hbef hgrd
  have hnone : ∀ (y : Nat) (d' : DOp), ds[y]? = some d' → isA d'.lop = true → y ≠ x → S y = false → φ (nm ds base y) = none := fun y d' h1 h2 _ h3 => hi.anone y d' h1 h2 h3
  rcases h with ⟨h1, h2⟩ | ⟨h1, v, h2, h3⟩
  · refine ⟨φ, _, w, L, op_skip hop (hoff h1), ?_⟩
    rw [ht]
    exact hi.exec hu hd hC hE hbef ht htn h2 hi.stp (Phi.le_refl φ) rel_undef (fun _ _ h => h) hnone (fun hA hJ => ⟨Tx, hag, .inl h1⟩)
  · rcases h3 with ⟨po, v0, F0, hpo, hp, hF0, rfl⟩ | ⟨mo, ob, hmo, hA, hav, hob⟩
    · rw [hpo] at hcomp
      obtain ⟨vv, h4, h5⟩ := pure_sound hcomp (hi.opd hag hS hbef) hi.stp.sim.sim hF0 hp
      refine ⟨φ, _, w, L, op_value hop (hon h1) (not_defer_p hcomp) h4 (.inl rfl), ?_⟩
      rw [ht]
      exact hi.exec hu hd hC hE hbef ht htn h2 hi.stp (Phi.le_refl φ) (norm_rel hF0 h5) (fun _ _ h => h) hnone (fun hA hJ => by rw [hpo] at hA; cases hA)
    · have hcomp' := hcomp
      rw [hmo] at hcomp'
      have hfr := hi.anone x d hd hA hS
      obtain ⟨vv, w', ph, ox, h4, h5, h6, h7, h8, h9⟩ := (a_sound (w := w) hcomp' (hi.opd hag hS hbef) hfr hav hob).ex
      have hstp := hi.stp.new hfr (by rw [hbase]; simp only [nm, posAdd_toNat]; omega) (Nat.lt_of_lt_of_le (nm_lt hd hA) hi.next) h5 h6 h7 h8
      refine ⟨φ.set (nm ds base x) ph, a.put d.o.dst vv, w', (fun p => if p = nm ds base x then some ob else L p), op_value hop (hon h1) (not_defer_m hcomp') h4 (.inl rfl), ?_⟩
      rw [ht]
      refine hi.exec hu hd hC hE hbef ht htn h2 hstp (Phi.le_set hfr) h9 (fun p o hp => ?_) (fun y d' h10 h11 h12 h13 => ?_) (fun _ _ => ⟨Tx, hag, .inr ⟨h1, mo, ob, hmo, hob, ?_⟩⟩)
      · by_cases e : p = nm ds base x
        · obtain ⟨B, hB, _⟩ := (hi.stp.sim.blk p o hp).phys
          rw [e] at hB; simp [physB, hfr] at hB
        · simp only [if_neg e]; exact hp
      · rw [Phi.set_ne (nm_ne hd hA h10 h11 h12)]; exact hi.anone y d' h10 h11 h13
      · simp
end
end Go.LX

/- LX, part 40: regions that draw their order: the plan's steps. -/
namespace Go.LX
section
variable {P : Program} {nt : Nat} {ops : Array Oper} {ds : List DOp} {base : Pos} {T₀ : Trie LV} {φ₀ : Phi} {H₀ : Heap} {w₀ : World} {D : List LDef} {C J : Nat} {T : Trie LV} {H : Heap} {L : Pos → Option LO} {S : Nat → Bool} {φ : Phi} {a : Act} {w : World}
  {TP : Trie LV} {r : Run} {lo : Lo} {u : Pan} {k : K} {rest : List DI}

theorem guard_looks {o : Oper} {t : Pos} {wb : Bool} (hg : grdOf nt ops o = some (some (t, wb))) : ∃ t', t = posOf t' ∧ t' ∈ o.looksAt ops := by
  unfold grdOf at hg
  split at hg
  · cases hg
  · rename_i j w' hj
    split at hg
    · rename_i oj hoj
      split at hg
      · rename_i t' hdst
        split at hg
        · cases hg
          refine ⟨t', rfl, List.mem_append_right _ ?_⟩
          simp [hj, hoj, hdst]
        · cases hg
      · cases hg
    · cases hg
/-- what looks at new values alone sees them later too -/
def Grows (ops : Array Oper) (d : DOp) (Tx T : Trie LV) : Prop := ∀ t ∈ d.o.looksAt ops, ∀ v, Tx.get (posOf t) = some v → T.get (posOf t) = some v
theorem Agree.grows {x : Nat} {d : DOp} {Tx T : Trie LV} (h : Agree ops ds T₀ x d Tx T) (hd : heapDep d.lop = true ∨ isA d.lop = true) : Grows ops d Tx T := by
  intro t ht v hv
  rcases h t ht v hv with ⟨h1, _⟩ | ⟨_, ⟨h1, h2⟩, _⟩
  · exact h1
  · rcases hd with hd | hd
    · rw [hd] at h1; cases h1
    · rw [hd] at h2; cases h2
theorem Grows.on {d : DOp} {Tx T : Trie LV} (h : Grows ops d Tx T) (hg : grdOf nt ops d.o = some d.g) (ho : GOn d.g Tx) : GOn d.g T := by
  cases hd : d.g with
  | none => trivial
  | some pw =>
    obtain ⟨p, w⟩ := pw
    rw [hd] at hg ho
    obtain ⟨t, rfl, ht⟩ := guard_looks hg
    exact h t ht _ ho
theorem Grows.off {d : DOp} {Tx T : Trie LV} (h : Grows ops d Tx T) (hg : grdOf nt ops d.o = some d.g) (ho : GOff d.g Tx) : GOff d.g T := by
  cases hd : d.g with
  | none => rw [hd] at ho; exact ho
  | some pw =>
    obtain ⟨p, w⟩ := pw
    rw [hd] at hg ho
    obtain ⟨t, rfl, ht⟩ := guard_looks hg
    exact ho.imp (h t ht _) (h t ht _)
theorem not_isE {d : DOp} (h : isE d.lop = false) : (∃ po, d.lop = .p po) ∨ (∃ mo, d.lop = .m mo ∧ isA d.lop = true) := by
  cases hl : d.lop with
  | p po => exact .inl ⟨po, rfl⟩
  | m mo =>
    rw [hl] at h
    refine .inr ⟨mo, rfl, ?_⟩
    cases ha : isA (.m mo) with
    | true => rfl
    | false => simp [isE, ha, isP] at h
  | c co => rw [hl] at h; cases h
theorem get_put_same' (T : Trie LV) (p : Pos) (v : LV) : (T.put (some v) p).get p = some v := by rw [Trie.get_put, if_pos rfl]
/-- a stretch of values and names -/
theorem blk_run (hok : DsOk P nt ops ds) (hl : Looks ops ds) (hu : Uniq ds) {eL : Option Nat} : ∀ {xs : List Nat} {C C1 : Nat} {T : Trie LV}, blkOk ds eL xs C = some C1 → Inv P nt ops ds base T₀ φ₀ H₀ w₀ D C J T H L S φ a w →
    runD (xs.flatMap (iBlk ds) ++ rest) base TP r lo T H D u k = true → ∃ T', runD rest base TP r lo T' H D u k = true ∧ Inv P nt ops ds base T₀ φ₀ H₀ w₀ D C1 J T' H L S φ a w
  | [], C, C1, T, hb, hi, h => by
    have h' : some C = some C1 := hb
    cases h'
    exact ⟨T, h, hi⟩
  | x :: xs, C, C1, T, hb, hi, h => by
    obtain ⟨d, hd, h1, h2, h3, h4, h5⟩ := blkOk_cons hb
    obtain ⟨hop, hcomp, hgrd, hdst, hds⟩ := hok.op x d hd
    obtain ⟨t, ht⟩ := Option.isSome_iff_exists.1 (hds h1)
    have hag := hi.agree hl hu hd h2
    have hbC : ∀ i, hasBit d.bef i = true → hasBit C i = true := fun i hb => preOk_spec h3 hb
    rw [List.flatMap_cons, List.append_assoc] at h
    rcases not_isE h1 with ⟨po, hpo⟩ | ⟨mo, hmo, hA⟩
    · have hib : iBlk ds x = [.r x po (posOf t) d.g] := by simp only [iBlk, hd, hpo, ht]
      rw [hib] at h
      have h' : gq d.g T (bb (pureN po T H) fun v => runD (xs.flatMap (iBlk ds) ++ rest) base TP r lo (T.put (some v) (posOf t)) H D u k) (runD (xs.flatMap (iBlk ds) ++ rest) base TP r lo (T.put (some unitLV) (posOf t)) H D u k) = true := h
      rcases gq_true h' with ⟨hg, h6⟩ | ⟨hg, h6⟩
      · obtain ⟨v, hv, h7⟩ := bb_true.1 h6
        obtain ⟨v0, hv0, hvn⟩ := pureN_some hv
        exact blk_run hok hl hu h5 (hi.plan hu hd h2 h1 h3 ht ⟨t, T, ht, hag.put hbC h2 hd ht, .inr ⟨hg, v, get_put_same' _ _ _, .inl ⟨po, v0, H.fs, hpo, hv0, hi.stp.sim.sim.facts, hvn⟩⟩⟩) h7
      · exact blk_run hok hl hu h5 (hi.plan hu hd h2 h1 h3 ht ⟨t, T, ht, hag.put hbC h2 hd ht, .inl ⟨hg, get_put_same' _ _ _⟩⟩) h6
    · have hib : iBlk ds x = [.av x (newNo ds x) mo (posOf t) d.g] := by simp only [iBlk, hd, hmo, ht]
      rw [hib] at h
      have h' : gq d.g T (bb (aVal mo (posAdd base (newNo ds x))) fun v => bb (aObj mo T) fun _ => runD (xs.flatMap (iBlk ds) ++ rest) base TP r lo (T.put (some v) (posOf t)) H D u k) (runD (xs.flatMap (iBlk ds) ++ rest) base TP r lo (T.put (some unitLV) (posOf t)) H D u k) = true := h
      rcases gq_true h' with ⟨hg, h6⟩ | ⟨hg, h6⟩
      · simp only [bb_true] at h6
        obtain ⟨v, hv, ob, hob, h7⟩ := h6
        exact blk_run hok hl hu h5 (hi.plan hu hd h2 h1 h3 ht ⟨t, T, ht, hag.put hbC h2 hd ht, .inr ⟨hg, v, get_put_same' _ _ _, .inr ⟨mo, ob, hmo, hA, hv, hob⟩⟩⟩) h7
      · exact blk_run hok hl hu h5 (hi.plan hu hd h2 h1 h3 ht ⟨t, T, ht, hag.put hbC h2 hd ht, .inl ⟨hg, get_put_same' _ _ _⟩⟩) h6
/-- what is asked again -/
theorem ck_run : ∀ {ck : List Nat}, runD (ck.flatMap (iCk ds) ++ rest) base TP r lo T H D u k = true → runD rest base TP r lo T H D u k = true ∧ ∀ x ∈ ck, ∀ (d : DOp) (po : POp) (t : Nat), ds[x]? = some d → d.lop = .p po → d.o.dst = some t →
    (GOn d.g T ∧ ∃ v0, pureOp H.fs po T H = some v0 ∧ T.get (posOf t) = some (norm v0 H.fs v0)) ∨ GOff d.g T
  | [], h => ⟨h, fun x hx => by cases hx⟩
  | x :: ck, h => by
    rw [List.flatMap_cons, List.append_assoc] at h
    by_cases hex : ∃ d po t, ds[x]? = some d ∧ d.lop = .p po ∧ d.o.dst = some t
    · obtain ⟨d, po, t, hd, hpo, ht⟩ := hex
      have hic : iCk ds x = [.c x po (posOf t) d.g] := by simp only [iCk, hd, hpo, ht]
      rw [hic] at h
      have h' : gq d.g T (bb (pureN po T H) fun v => bb (T.get (posOf t)) fun w => ib (lvEq v w) (runD (ck.flatMap (iCk ds) ++ rest) base TP r lo T H D u k) false) (runD (ck.flatMap (iCk ds) ++ rest) base TP r lo T H D u k) = true := h
      rcases gq_true h' with ⟨hg, h6⟩ | ⟨hg, h6⟩
      · simp only [bb_true, ib_ff] at h6
        obtain ⟨v, hv, w, hw, heq, h7⟩ := h6
        obtain ⟨h8, h9⟩ := ck_run h7
        refine ⟨h8, fun y hy d' po' t' hd' hpo' ht' => ?_⟩
        rcases List.mem_cons.1 hy with rfl | hy
        · rw [hd] at hd'; cases hd'
          rw [hpo] at hpo'; cases hpo'
          rw [ht] at ht'; cases ht'
          obtain ⟨v0, hv0, hvn⟩ := pureN_some hv
          exact .inl ⟨hg, v0, hv0, by rw [hw, ← lvEq_eq v w heq, hvn]⟩
        · exact h9 y hy d' po' t' hd' hpo' ht'
      · obtain ⟨h8, h9⟩ := ck_run h6
        refine ⟨h8, fun y hy d' po' t' hd' hpo' ht' => ?_⟩
        rcases List.mem_cons.1 hy with rfl | hy
        · rw [hd] at hd'; cases hd'
          exact .inr hg
        · exact h9 y hy d' po' t' hd' hpo' ht'
    · have hic : iCk ds x = [] := by
        unfold iCk
        split
        · rename_i d hd
          split
          · rename_i po t hpo ht; exact absurd ⟨d, po, t, hd, hpo, ht⟩ hex
          · rfl
        · rfl
      rw [hic, List.nil_append] at h
      obtain ⟨h8, h9⟩ := ck_run h
      refine ⟨h8, fun y hy d' po' t' hd' hpo' ht' => ?_⟩
      rcases List.mem_cons.1 hy with rfl | hy
      · exact absurd ⟨d', po', t', hd', hpo', ht'⟩ hex
      · exact h9 y hy d' po' t' hd' hpo' ht'
end
end Go.LX

/- LX, part 41: regions that draw their order: new blocks are told. -/
namespace Go.LX
section
variable {P : Program} {nt : Nat}

/-- an operation that makes a block, where more is known -/
theorem getO_grows {ops : Array Oper} {d : DOp} {Tx T : Trie LV} (hg : Grows ops d Tx T) {x : Operand} (hx : x ∈ d.o.op.operands.toList) {lo : LOpd} (h : opd nt x = some lo) {v : LV} (hv : getO lo Tx = some v) : getO lo T = some v := by
  cases x with
  | tmp t =>
    rw [opd_tmp h] at hv ⊢
    exact hg t (List.mem_append_left _ (List.mem_filterMap.2 ⟨.tmp t, hx, rfl⟩)) v hv
  | const c => rw [getO_const (T' := Tx) h (by simp)]; exact hv
  | func f => rw [getO_const (T' := Tx) h (by simp)]; exact hv
  | global g => cases h
theorem fill_grows {ops : Array Oper} {d : DOp} {Tx T : Trie LV} (hg : Grows ops d Tx T) {place : Nat → Option (Nat × Nat)} : ∀ {ps : List (Nat × Operand)} {lps : List (Nat × Nat × LOpd)} {zero cs : List LV}, (∀ p ∈ ps, p.2 ∈ d.o.op.operands.toList) → partsOf nt place ps = some lps → fillParts Tx zero lps = some cs → fillParts T zero lps = some cs
  | [], lps, zero, cs, _, h1, h2 => by
    simp only [partsOf, Option.some.injEq] at h1
    subst h1; exact h2
  | (i, x) :: ps, lps, zero, cs, hsub, h1, h2 => by
    simp only [partsOf] at h1
    split at h1
    · rename_i off sz y ys hpl hy hys
      cases h1
      have h2' : (ob (getO y Tx) fun v => ib (Nat.beq (cellsOf v).length sz) (ib (Nat.ble (off + sz) zero.length) (fillParts Tx (overlay zero off (cellsOf v)) ys) none) none) = some cs := h2
      obtain ⟨v, hv, h3⟩ := ob_some.1 h2'
      rw [ib_some, ib_some] at h3
      obtain ⟨h4, h5, h6⟩ := h3
      refine ob_some.2 ⟨v, getO_grows hg (hsub (i, x) (by simp)) hy hv, ?_⟩
      rw [ib_some, ib_some]
      exact ⟨h4, h5, fill_grows hg (fun p hp => hsub p (by simp [hp])) hys h6⟩
    · cases h1
theorem aObj_grows {ops : Array Oper} {d : DOp} {Tx T : Trie LV} (hg : Grows ops d Tx T) {mo : MOp} (hc : compOp P nt d.o = some (.m mo)) {ob : LO} (h : aObj mo Tx = some ob) : aObj mo T = some ob := by
  unfold compOp at hc
  split at hc <;> first | (cases hc; done) | exact (np1 hc).elim | exact (np2 hc).elim | exact (compBuild_p hc).elim | exact (compBin_p hc).elim | exact (compSlice_p hc).elim | exact (nc0 hc).elim | skip
  all_goals rename_i ho
  · exfalso; repeat' (first | (cases hc; done) | exact (np1 hc).elim | exact (np2 hc).elim | exact (np0 hc).elim | exact (nc0 hc).elim | (obtain ⟨_, _, e⟩ := m1_some hc; cases e; cases h; done) | (obtain ⟨_, _, _, _, e⟩ := m2_some hc; cases e; cases h; done) | (obtain ⟨_, _, _, _, _, _, e⟩ := m3_some hc; cases e; cases h; done) | split at hc)
  · -- alloc
    simp only [Option.map_eq_some_iff] at hc
    obtain ⟨z, hz, e⟩ := hc
    cases e
    exact h
  · -- box
    obtain ⟨la, h1, e⟩ := m1_some hc
    cases e
    have h' : (Go.LX.ob (getO la Tx) fun v => ib (allOne (cellsOf v)) (some (LO.cells (mkRow .lf 0 (cellsOf v)))) none) = some ob := h
    obtain ⟨v, hv, h2⟩ := ob_some.1 h'
    exact ob_some.2 ⟨v, getO_grows hg (by rw [ho]; simp [Op.operands]) h1 hv, h2⟩
  · -- buildSlice
    split at hc
    · split at hc
      · split at hc
        · simp only [Option.map_eq_some_iff] at hc
          obtain ⟨lps, hlps, e'⟩ := hc
          cases e'
          obtain ⟨cs, hcs, h2⟩ := ob_some.1 (show (Go.LX.ob (fillParts Tx _ lps) fun cs => ib (allOne cs) (some (LO.cells (mkRow .lf 0 cs))) none) = some ob from h)
          exact ob_some.2 ⟨cs, fill_grows hg (fun p hp => by rw [ho]; simp only [Op.operands]; simpa using List.mem_map_of_mem (f := (·.2)) hp) hlps hcs, h2⟩
        · cases hc
      · cases hc
    · cases hc
  iterate 7 (· exfalso; repeat' (first | (cases hc; done) | exact (np1 hc).elim | exact (np2 hc).elim | exact (np0 hc).elim | exact (nc0 hc).elim | (obtain ⟨_, _, e⟩ := m1_some hc; cases e; cases h; done) | (obtain ⟨_, _, _, _, e⟩ := m2_some hc; cases e; cases h; done) | (obtain ⟨_, _, _, _, _, _, e⟩ := m3_some hc; cases e; cases h; done) | split at hc))
  · -- makeMap
    cases hc
    exact h
  iterate 11 (· exfalso; repeat' (first | (cases hc; done) | exact (np1 hc).elim | exact (np2 hc).elim | exact (np0 hc).elim | exact (nc0 hc).elim | (obtain ⟨_, _, e⟩ := m1_some hc; cases e; cases h; done) | (obtain ⟨_, _, _, _, e⟩ := m2_some hc; cases e; cases h; done) | (obtain ⟨_, _, _, _, _, _, e⟩ := m3_some hc; cases e; cases h; done) | split at hc))
  · rename_i c
    exfalso
    split at hc
    · exact (nc0 hc).elim
    · split at hc <;> cases hc
    · rename_i b hb
      unfold compBuiltin at hc
      split at hc
      all_goals (repeat' (first | (cases hc; done) | exact (np1 hc).elim | exact (np2 hc).elim | exact (np0 hc).elim | exact (nc0 hc).elim | (obtain ⟨_, _, e⟩ := m1_some hc; cases e; cases h; done) | (obtain ⟨_, _, _, _, e⟩ := m2_some hc; cases e; cases h; done) | (obtain ⟨_, _, _, _, _, _, e⟩ := m3_some hc; cases e; cases h; done) | split at hc))
    · cases hc
end
end Go.LX

/- LX, part 42: regions that draw their order: new blocks are told. -/
namespace Go.LX
section
variable {P : Program} {nt : Nat} {ops : Array Oper} {ds : List DOp} {base : Pos} {T₀ : Trie LV} {φ₀ : Phi} {H₀ : Heap} {w₀ : World} {D : List LDef} {C : Nat} {T : Trie LV} {S : Nat → Bool} {φ : Phi} {a : Act} {w : World}
  {TP : Trie LV} {r : Run} {lo : Lo} {u : Pan} {k : K} {rest : List DI}
/-- a new block is told -/
theorem Inv.told {J : Nat} {H : Heap} {L : Pos → Option LO} (hi : Inv P nt ops ds base T₀ φ₀ H₀ w₀ D C J T H L S φ a w) {x : Nat} {d : DOp} (hd : ds[x]? = some d) (hA : isA d.lop = true) {ob : LO} (hL : L (nm ds base x) = some ob) :
    Inv P nt ops ds base T₀ φ₀ H₀ w₀ D C (addBit J x) T (H.setO (nm ds base x) ob) (fun p => if p = nm ds base x then none else L p) S φ a w := by
  have hsub : ∀ q o, H.t.get q = some o → (H.setO (nm ds base x) ob).t.get q = some o := by
    intro q o hq
    have : (H.setO (nm ds base x) ob).t.get q = if q = nm ds base x then some ob else H.t.get q := Trie.get_put _ _ _ _
    rw [this, if_neg]
    · exact hq
    · intro e; rw [e, (hi.stp.sim.low _ _ hL).2] at hq; cases hq
  refine ⟨hi.stp.ins hL, hi.next, hi.sub, hi.ees, hi.cls, hi.reach, hi.old, hi.tm1, hi.tm0, hi.size, hi.defs, fun y d' hd' hE hC hS => ?_, hi.anone, fun y d' hd' hA' hS hJ => ?_⟩
  · obtain ⟨t, Tx, h1, h2, h3⟩ := hi.pl y d' hd' hE hC hS
    refine ⟨t, Tx, h1, h2, h3.imp id fun ⟨h4, v, h5, h6⟩ => ⟨h4, v, h5, h6.imp (fun ⟨po, v0, F, h7, h8, h9, h10⟩ => ⟨po, v0, F, h7, pureOp_sub hsub h8, h9, h10⟩) id⟩⟩
  · rw [hasBit_add] at hJ
    simp only [Bool.or_eq_false_iff, decide_eq_false_iff_not] at hJ
    obtain ⟨Tx, h1, h2⟩ := hi.aex y d' hd' hA' hS hJ.1
    refine ⟨Tx, h1, h2.imp id fun ⟨h3, mo, o, h4, h5, h6⟩ => ⟨h3, mo, o, h4, h5, ?_⟩⟩
    simp only [if_neg (nm_ne (base := base) hd hA hd' hA' (Ne.symm hJ.2))]
    exact h6
theorem Inv.skipped {J : Nat} {H : Heap} {L : Pos → Option LO} (hi : Inv P nt ops ds base T₀ φ₀ H₀ w₀ D C J T H L S φ a w) (x : Nat) : Inv P nt ops ds base T₀ φ₀ H₀ w₀ D C (addBit J x) T H L S φ a w := by
  refine ⟨hi.stp, hi.next, hi.sub, hi.ees, hi.cls, hi.reach, hi.old, hi.tm1, hi.tm0, hi.size, hi.defs, hi.pl, hi.anone, fun y d' hd' hA' hS hJ => ?_⟩
  rw [hasBit_add] at hJ
  simp only [Bool.or_eq_false_iff] at hJ
  exact hi.aex y d' hd' hA' hS hJ.1
theorem ai_run (hok : DsOk P nt ops ds) {bef : Option Nat} : ∀ {xs : List Nat} {J J1 : Nat} {H : Heap} {L : Pos → Option LO}, aiOk ds C bef xs J = some J1 → (∀ x ∈ xs, S x = true) → Inv P nt ops ds base T₀ φ₀ H₀ w₀ D C J T H L S φ a w →
    runD (xs.flatMap (iAi ds) ++ rest) base TP r lo T H D u k = true → ∃ H' L', runD rest base TP r lo T H' D u k = true ∧ Inv P nt ops ds base T₀ φ₀ H₀ w₀ D C J1 T H' L' S φ a w
  | [], J, J1, H, L, ha, hS, hi, h => by
    have h' : some J = some J1 := ha
    cases h'
    exact ⟨H, L, h, hi⟩
  | x :: xs, J, J1, H, L, ha, hS, hi, h => by
    obtain ⟨d, hd, hA, hC, hJ, _, h5⟩ := aiOk_cons ha
    obtain ⟨hop, hcomp, hgrd, hdst, hds⟩ := hok.op x d hd
    obtain ⟨mo, hmo⟩ := isA_m hA
    have hE : isE d.lop = false := by simp [isE, hA]
    obtain ⟨t, ht⟩ := Option.isSome_iff_exists.1 (hds hE)
    have hxS := hS x (by simp)
    obtain ⟨Tx, hag, hgo⟩ := hi.aex x d hd hA hxS hJ
    have hgr := hag.grows (.inr hA)
    have hcomp' := hcomp
    rw [hmo] at hcomp'
    have hii : iAi ds x = [.ai x (newNo ds x) mo (posOf t) d.g] := by simp only [iAi, hd, hmo, ht]
    rw [List.flatMap_cons, List.append_assoc, hii] at h
    have h' : gq d.g T (bb (aObj mo T) fun ob => runD (xs.flatMap (iAi ds) ++ rest) base TP r lo T (H.setO (posAdd base (newNo ds x)) ob) D u k) (runD (xs.flatMap (iAi ds) ++ rest) base TP r lo T H D u k) = true := h
    rcases gq_true h' with ⟨hg, h6⟩ | ⟨hg, h6⟩
    · obtain ⟨ob, hob, h7⟩ := bb_true.1 h6
      rcases hgo with hoff | ⟨hon, mo', ob', h8, h9, h10⟩
      · exact (hg.not_off (hgr.off hgrd hoff)).elim
      · rw [hmo] at h8; cases h8
        have := aObj_grows hgr hcomp' h9
        rw [hob] at this; cases this
        exact ai_run hok h5 (fun y hy => hS y (by simp [hy])) (hi.told hd hA h10) h7
    · exact ai_run hok h5 (fun y hy => hS y (by simp [hy])) (hi.skipped x) h6
end
end Go.LX

/- LX, part 43: regions that draw their order: a call or a store has been made. -/
namespace Go.LX
section
variable {P : Program} {nt : Nat} {ops : Array Oper} {ds : List DOp} {base : Pos} {T₀ : Trie LV} {φ₀ : Phi} {H₀ : Heap} {w₀ : World} {D : List LDef} {C J : Nat} {T : Trie LV} {H : Heap} {L : Pos → Option LO} {S : Nat → Bool} {φ : Phi} {a : Act} {w : World}

theorem putD_ne {T : Trie LV} {dst : Option Nat} {v : LV} {t : Nat} (h : dst ≠ some t) : (putD T (dstOf dst) v).get (posOf t) = T.get (posOf t) := by
  cases dst with
  | none => rfl
  | some d =>
    show (T.put (some v) (posOf d)).get (posOf t) = _
    rw [Trie.get_put, if_neg]
    intro e
    exact h (by rw [posOf_inj e])
theorem putD_same {T : Trie LV} {t : Nat} {v : LV} : (putD T (dstOf (some t)) v).get (posOf t) = some v := get_put_same' _ _ _
theorem Inv.made (hi : Inv P nt ops ds base T₀ φ₀ H₀ w₀ D C J T H L S φ a w) (hok : DsOk P nt ops ds) (hl : Looks ops ds) (hu : Uniq ds) {x : Nat} {d : DOp} (hd : ds[x]? = some d) (hx : hasBit C x = false) (hE : isE d.lop = true) (hp : preOk d.bef C = true) (hbef : ∀ i, hasBit d.bef i = true → S i = true)
    {φ' : Phi} {H' : Heap} {w' : World} (hst : Stp P φ H w φ' H' w') {v : LV} {vv : Value} (hr : Rel φ' v vv) {T' : Trie LV} (hT' : T' = putD T (dstOf d.o.dst) v)
    (hck : ∀ (y : Nat) (d' : DOp) (po : POp) (t : Nat), ds[y]? = some d' → hasBit C y = true → heapDep d'.lop = true → hasBit d.bef y = false → d'.lop = .p po → d'.o.dst = some t → (GOn d'.g T' ∧ ∃ v0, pureOp H'.fs po T' H' = some v0 ∧ T'.get (posOf t) = some (norm v0 H'.fs v0)) ∨ GOff d'.g T') :
    Inv P nt ops ds base T₀ φ₀ H₀ w₀ D (addBit C x) J T' H' L (fun y => decide (y = x) || S y) φ' (a.put d.o.dst vv) w' := by
  have hdst := (hok.op x d hd).2.2.2.1
  have hlt : ∀ t, d.o.dst = some t → t < a.tmps.size := fun t ht => by
    rw [ht] at hdst
    exact Nat.lt_of_lt_of_le (by simpa [dstOk] using hdst) hi.size
  have htm : ∀ t', d.o.dst ≠ some t' → (a.put d.o.dst vv).tmps[t']? = a.tmps[t']? := fun t' hne => by
    cases hdd : d.o.dst with
    | none => rfl
    | some t => simp only [Act.put]; rw [Array.getElem?_setIfInBounds_ne fun e => hne (by rw [hdd, e])]
  have hSx : S x = false := by
    cases hs : S x with
    | false => rfl
    | true => rw [hi.sub x hs] at hx; cases hx
  have hagp : ∀ {y : Nat} {d' : DOp} {Ty : Trie LV}, Agree ops ds T₀ y d' Ty T → (∀ i, hasBit d'.bef i = true → hasBit C i = true) → Agree ops ds T₀ y d' Ty T' := by
    intro y d' Ty hag hb
    subst hT'
    cases hdd : d.o.dst with
    | none => exact hag
    | some t => exact hag.put hb hx hd hdd
  have hsame : ∀ t, d.o.dst ≠ some t → T'.get (posOf t) = T.get (posOf t) := fun t ht => by rw [hT']; exact putD_ne ht
  have hself : ∀ t, d.o.dst = some t → T'.get (posOf t) = some v := fun t ht => by rw [hT', ht]; exact putD_same
  refine ⟨hi.stp.step hst, Nat.le_trans hi.next hst.next, fun y hy => ?_, fun y d' hd' hE' hC => ?_, fun y d' hd' hy i hb => ?_, .add hi.reach hd hp, fun t' hno => ?_, fun t' v' hv' hall => ?_, fun t' v' hv' hall => ?_, ?_, ?_, fun y d' hd' hE' hC hS' => ?_, fun y d' hd' hA hS' => ?_, fun y d' hd' hA hS' hJ => ?_⟩
  · simp only [Bool.or_eq_true, decide_eq_true_eq] at hy
    rw [hasBit_add]
    rcases hy with rfl | hy
    · simp
    · rw [hi.sub y hy]; rfl
  · rw [hasBit_add] at hC
    simp only [Bool.or_eq_true, decide_eq_true_eq] at hC ⊢
    rcases hC with hC | hC
    · exact .inr (hi.ees y d' hd' hE' hC)
    · exact .inl hC.symm
  · simp only [Bool.or_eq_true, decide_eq_true_eq] at hy ⊢
    rcases hy with rfl | hy
    · rw [hd] at hd'; cases hd'; exact .inr (hbef i hb)
    · exact .inr (hi.cls y d' hd' hy i hb)
  · have hne : d.o.dst ≠ some t' := fun e => by
      have := hno x ⟨d, hd, e⟩
      rw [hasBit_add] at this; simp at this
    rw [hsame t' hne]
    refine hi.old t' fun y hy => ?_
    have := hno y hy
    rw [hasBit_add] at this
    simp only [Bool.or_eq_false_iff] at this
    exact this.1
  · by_cases e : d.o.dst = some t'
    · rw [hself t' e] at hv'; cases hv'
      refine ⟨vv, ?_, hr⟩
      rw [e]
      simp [Act.put, hlt t' e]
    · rw [hsame t' e] at hv'
      rw [htm t' e]
      obtain ⟨q, h1, h2⟩ := hi.tm1 t' v' hv' fun y hy => by
        have h3 := hall y hy
        simp only [Bool.or_eq_true, decide_eq_true_eq] at h3
        rcases h3 with rfl | h3
        · obtain ⟨d', h4, h5⟩ := hy
          rw [hd] at h4; cases h4
          exact absurd h5 e
        · exact h3
      exact ⟨q, h1, h2.mono hst.le⟩
  · have e : d.o.dst ≠ some t' := fun e => by
      have := hall x ⟨d, hd, e⟩
      simp at this
    rw [htm t' e]
    obtain ⟨q, h1, h2⟩ := hi.tm0 t' v' hv' fun y hy => by
      have := hall y hy
      simp only [Bool.or_eq_false_iff] at this
      exact this.2
    exact ⟨q, h1, h2.mono hst.le⟩
  · cases hdd : d.o.dst with
    | none => exact hi.size
    | some t => simpa [Act.put] using hi.size
  · cases hdd : d.o.dst with
    | none => exact hi.defs.mono hst.le
    | some t => exact hi.defs.mono hst.le
  · simp only [Bool.or_eq_false_iff, decide_eq_false_iff_not] at hS'
    rw [hasBit_add] at hC
    simp only [Bool.or_eq_true, decide_eq_true_eq] at hC
    have hC := hC.resolve_right (Ne.symm hS'.1)
    obtain ⟨t, Ty, h1, h2, h3⟩ := hi.pl y d' hd' hE' hC hS'.2
    have hgrd' := (hok.op y d' hd').2.2.1
    have hne : d.o.dst ≠ some t := fun e => hS'.1 (hu y x t ⟨d', hd', h1⟩ ⟨d, hd, e⟩)
    have hbC : ∀ i, hasBit d'.bef i = true → hasBit C i = true := fun i hb => hi.reach.closed hC hd' hb
    have hnb : hasBit d.bef y = false := by
      cases hb : hasBit d.bef y with
      | false => rfl
      | true => rw [hbef y hb] at hS'; cases hS'.2
    have hag' := hagp h2 hbC
    cases hh : heapDep d'.lop with
    | false =>
      refine ⟨t, Ty, h1, hag', ?_⟩
      rw [hsame t hne]
      refine h3.imp id fun ⟨h4, v', h5, h6⟩ => ⟨h4, v', h5, h6.imp (fun ⟨po, v0, F, h7, h8, h9, h10⟩ => ⟨po, v0, F, h7, ?_, h9.mono hst.le, h10⟩) id⟩
      rw [h7] at hh
      rw [pureOp_heap hh Ty H' H]; exact h8
    | true =>
      have hpo : ∃ po, d'.lop = .p po := by
        rcases not_isE hE' with h | ⟨mo, hm, _⟩
        · exact h
        · rw [hm] at hh; cases hh
      obtain ⟨po, hpo⟩ := hpo
      have hagT : Agree ops ds T₀ y d' T' T' := fun t' ht' v' hv' => .inl ⟨hv', fun z ⟨dz, hz1, hz2⟩ => (hl y d' hd' t' ht' z dz hz1 hz2).resolve_right fun ⟨_, h, _⟩ => by rw [hh] at h; cases h⟩
      have hgr := hag'.grows (.inl hh)
      rcases hck y d' po t hd' hC hh hnb hpo h1 with ⟨hg, v0, hv', hgt⟩ | hg
      · exact ⟨t, T', h1, hagT, .inr ⟨hg, _, hgt, .inl ⟨po, v0, H'.fs, hpo, hv', hst.sim.facts, rfl⟩⟩⟩
      · refine ⟨t, T', h1, hagT, .inl ⟨hg, ?_⟩⟩
        rcases h3 with ⟨_, h4⟩ | ⟨hon, _⟩
        · rw [hsame t hne]; exact h4
        · exact ((hgr.on hgrd' hon).not_off hg).elim
  · simp only [Bool.or_eq_false_iff, decide_eq_false_iff_not] at hS'
    rw [hst.low _ (Nat.lt_of_lt_of_le (nm_lt hd' hA) hi.next)]
    exact hi.anone y d' hd' hA hS'.2
  · simp only [Bool.or_eq_true, decide_eq_true_eq] at hS'
    have hyx : y ≠ x := fun e => by
      subst e; rw [hd] at hd'; cases hd'
      simp [isE, hA] at hE
    have hSy := hS'.resolve_left hyx
    obtain ⟨Ty, h1, h2⟩ := hi.aex y d' hd' hA hSy hJ
    exact ⟨Ty, hagp h1 (fun i hb => hi.reach.closed (hi.sub y hSy) hd' hb), h2⟩
end
end Go.LX

/- LX, part 44: regions that draw their order: any order. -/
namespace Go.LX
section
variable {P : Program} {nt : Nat} {ops : Array Oper} {ds : List DOp} {p : Plan} {base : Pos} {T₀ : Trie LV} {φ₀ : Phi} {H₀ : Heap} {w₀ : World} {D : List LDef} {TP : Trie LV} {r : Run} {lo : Lo} {u : Pan} {kk : K}

/-- where a plan's run stands: in front of a stage's call or store; behind the last -/
inductive Ph (ds : List DOp) (p : Plan) (base : Pos) (TP : Trie LV) (r : Run) (lo : Lo) (u : Pan) (kk : K) (D : List LDef) (C J : Nat) (T : Trie LV) (H : Heap) : Prop
  | stage {s : Stage} {rs : List Stage} {e : DOp} {J1 : Nat} {eF : Option Nat} {CF JF CE JE : Nat} (he : ds[s.e]? = some e) (hE : isE e.lop = true) (hC : hasBit C s.e = false) (hp : preOk e.bef C = true) (hck : ckOk ds C e.bef s.ck = true) (hai : aiOk ds C (some e.bef) s.ai J = some J1)
      (hst : stOk ds (some s.e) (addBit C s.e) J1 rs = some (eF, CF, JF)) (hblk : blkOk ds eF p.blk CF = some CE) (hae : aiOk ds CE none p.ai JF = some JE) (hall : ∀ (i : Nat) (d : DOp), ds[i]? = some d → hasBit CE i = true)
      (h : runD (s.ai.flatMap (iAi ds) ++ (iE ds s.e ++ (s.ck.flatMap (iCk ds) ++ (rs.flatMap (iStage ds) ++ (p.blk.flatMap (iBlk ds) ++ p.ai.flatMap (iAi ds)))))) base TP r lo T H D u kk = true) : Ph ds p base TP r lo u kk D C J T H
  | last {JE : Nat} (hae : aiOk ds C none p.ai J = some JE) (hall : ∀ (i : Nat) (d : DOp), ds[i]? = some d → hasBit C i = true) (h : runD (p.ai.flatMap (iAi ds)) base TP r lo T H D u kk = true) : Ph ds p base TP r lo u kk D C J T H
section
variable {L : Pos → Option LO} {S : Nat → Bool} {φ : Phi} {a : Act} {w : World}
theorem enter_phase (hok : DsOk P nt ops ds) (hl : Looks ops ds) (hu : Uniq ds) {rs : List Stage} {eL : Option Nat} {C J : Nat} {T : Trie LV} {H : Heap} {eF : Option Nat} {CF JF CE JE : Nat} (hst : stOk ds eL C J rs = some (eF, CF, JF)) (hblk : blkOk ds eF p.blk CF = some CE) (hae : aiOk ds CE none p.ai JF = some JE)
    (hall : ∀ (i : Nat) (d : DOp), ds[i]? = some d → hasBit CE i = true) (hi : Inv P nt ops ds base T₀ φ₀ H₀ w₀ D C J T H L S φ a w) (h : runD (rs.flatMap (iStage ds) ++ (p.blk.flatMap (iBlk ds) ++ p.ai.flatMap (iAi ds))) base TP r lo T H D u kk = true) :
    ∃ C1 T1, Inv P nt ops ds base T₀ φ₀ H₀ w₀ D C1 J T1 H L S φ a w ∧ Ph ds p base TP r lo u kk D C1 J T1 H := by
  cases rs with
  | nil =>
    have h' : some (eL, C, J) = some (eF, CF, JF) := hst
    cases h'
    obtain ⟨T1, h1, h2⟩ := blk_run hok hl hu hblk hi (by simpa using h)
    exact ⟨CE, T1, h2, .last hae hall h1⟩
  | cons s rs =>
    obtain ⟨C1, e, J1, h1, h2, h3, h4, h5, h6, h7, h8, h9⟩ := stOk_cons hst
    rw [List.flatMap_cons] at h
    simp only [iStage, List.append_assoc] at h
    obtain ⟨T1, g1, g2⟩ := blk_run hok hl hu h1 hi h
    exact ⟨C1, T1, g2, .stage h2 h3 h4 h5 h7 h8 h9 hblk hae hall g1⟩
end
end
end Go.LX

/- LX, part 45: regions that draw their order: a call or a store. -/
namespace Go.LX
section
variable {P : Program} {nt : Nat} {ops : Array Oper} {ds : List DOp} {p : Plan} {base : Pos} {T₀ : Trie LV} {φ₀ : Phi} {H₀ : Heap} {w₀ : World} {D : List LDef} {TP : Trie LV} {r : Run} {lo : Lo} {u : Pan} {kk : K}
  {C J : Nat} {T : Trie LV} {H : Heap} {L : Pos → Option LO} {S : Nat → Bool} {φ : Phi} {a : Act} {w : World}

theorem e_exec (hok : DsOk P nt ops ds) (hl : Looks ops ds) (hu : Uniq ds) (hlo : LoSound P lo) {b : Frame} {cs : List Frame} {k : List Item} {rest : List Nat} (hup : UpRel φ₀ b.kind b.roundOf u cs) (hth : (P.funcs[b.fn]?).isSome = true)
    (hTP : ∀ q v, TP.get q = some v → T₀.get q = some v ∧ ∀ x, ¬ Wr ds x q.idx)
    {s : Stage} {rs : List Stage} {e : DOp} {J1 : Nat} {eF : Option Nat} {CF JF CE JE : Nat} (he : ds[s.e]? = some e) (hE : isE e.lop = true) (hC : hasBit C s.e = false) (hp : preOk e.bef C = true) (hck : ckOk ds C e.bef s.ck = true) (hai : aiOk ds C (some e.bef) s.ai J = some J1)
    (hst : stOk ds (some s.e) (addBit C s.e) J1 rs = some (eF, CF, JF)) (hblk : blkOk ds eF p.blk CF = some CE) (hae : aiOk ds CE none p.ai JF = some JE) (hall : ∀ (i : Nat) (d : DOp), ds[i]? = some d → hasBit CE i = true)
    (h : runD (s.ai.flatMap (iAi ds) ++ (iE ds s.e ++ (s.ck.flatMap (iCk ds) ++ (rs.flatMap (iStage ds) ++ (p.blk.flatMap (iBlk ds) ++ p.ai.flatMap (iAi ds)))))) base TP r lo T H D u kk = true)
    (hi : Inv P nt ops ds base T₀ φ₀ H₀ w₀ D C J T H L S φ a w) (hbef : ∀ i, hasBit e.bef i = true → S i = true)
    (next : ∀ {C' J' : Nat} {T' : Trie LV} {H' : Heap} {L' : Pos → Option LO} {φ' : Phi} {a' : Act} {w' : World}, Inv P nt ops ds base T₀ φ₀ H₀ w₀ D C' J' T' H' L' (fun y => decide (y = s.e) || S y) φ' a' w' → Ph ds p base TP r lo u kk D C' J' T' H' →
      Lands P φ₀ H₀ w₀ nt b cs (lone (b.atR a' (.inRegion ops rest :: k)) cs w') k (thenK r lo kk)) :
    Lands P φ₀ H₀ w₀ nt b cs (lone (b.atR a (.inRegion ops (s.e :: rest) :: k)) cs w) k (thenK r lo kk) := by
  -- the new blocks that it may want
  have haiS : ∀ (xs : List Nat) (J J1 : Nat), aiOk ds C (some e.bef) xs J = some J1 → ∀ x ∈ xs, S x = true := by
    intro xs
    induction xs with
    | nil => intro J J1 _ x hx; cases hx
    | cons y ys ih =>
      intro J J1 hh x hx
      obtain ⟨d, _, _, _, _, h6, h7⟩ := aiOk_cons hh
      rcases List.mem_cons.1 hx with rfl | hx
      · exact hbef _ (h6 e.bef rfl)
      · exact ih _ _ h7 x hx
  obtain ⟨H1, L1, h1, hi1⟩ := ai_run hok hai (haiS _ _ _ hai) hi h
  obtain ⟨hop, hcomp, hgrd, hdst, _⟩ := hok.op s.e e he
  have hSx : S s.e = false := by
    cases hs : S s.e with
    | false => rfl
    | true => rw [hi.sub _ hs] at hC; cases hC
  have hag := hi1.agree hl hu he hC
  have hopd := hi1.opd hag hSx hbef
  obtain ⟨hon, hoff⟩ := hi1.grd hag hSx hbef hgrd
  -- what comes behind it
  have after : ∀ {φ' : Phi} {H' : Heap} {w' : World} {v : LV} {vv : Value}, Stp P φ H1 w φ' H' w' → Rel φ' v vv → runD (s.ck.flatMap (iCk ds) ++ (rs.flatMap (iStage ds) ++ (p.blk.flatMap (iBlk ds) ++ p.ai.flatMap (iAi ds)))) base TP r lo (putD T (dstOf e.o.dst) v) H' D u kk = true →
      step P (lone (b.atR a (.inRegion ops (s.e :: rest) :: k)) cs w) = .next (lone (b.atR (a.put e.o.dst vv) (.inRegion ops rest :: k)) cs w') ∨ Steps P (lone (b.atR a (.inRegion ops (s.e :: rest) :: k)) cs w) (lone (b.atR (a.put e.o.dst vv) (.inRegion ops rest :: k)) cs w') →
      Lands P φ₀ H₀ w₀ nt b cs (lone (b.atR a (.inRegion ops (s.e :: rest) :: k)) cs w) k (thenK r lo kk) := by
    intro φ' H' w' v vv hstp hr hrun hsteps
    obtain ⟨h2, h3⟩ := ck_run hrun
    have hi2 := hi1.made hok hl hu he hC hE hp hbef hstp hr rfl (fun y d' po t hd' hCy hh hnb hpo ht => h3 y ((ckOk_spec hck).2 y d' hd' hCy hh hnb) d' po t hd' hpo ht)
    obtain ⟨C2, T2, h4, h5⟩ := enter_phase hok hl hu hst hblk hae hall hi2 h2
    have hs : Steps P (lone (b.atR a (.inRegion ops (s.e :: rest) :: k)) cs w) (lone (b.atR (a.put e.o.dst vv) (.inRegion ops rest :: k)) cs w') := hsteps.elim Steps.one id
    exact (next h4 h5).of_steps hs
  cases hlop : e.lop with
  | p po => rw [hlop] at hE; cases hE
  | m mo =>
    have hie : iE ds s.e = [.m s.e mo (dstOf e.o.dst) e.g] := by simp only [iE, he, hlop]
    rw [hie] at h1
    have h' : gq e.g T (@Option.rec (LV × Heap) (fun _ => Bool) false (fun q => runD (s.ck.flatMap (iCk ds) ++ (rs.flatMap (iStage ds) ++ (p.blk.flatMap (iBlk ds) ++ p.ai.flatMap (iAi ds)))) base TP r lo (putD T (dstOf e.o.dst) q.1) q.2 D u kk) (memOp mo T H1)) (runD (s.ck.flatMap (iCk ds) ++ (rs.flatMap (iStage ds) ++ (p.blk.flatMap (iBlk ds) ++ p.ai.flatMap (iAi ds)))) base TP r lo (putD T (dstOf e.o.dst) unitLV) H1 D u kk) = true := h1
    have hcomp' := hcomp
    rw [hlop] at hcomp'
    rcases gq_true h' with ⟨hg, h6⟩ | ⟨hg, h6⟩
    · cases hm : memOp mo T H1 with
      | none => rw [hm] at h6; cases h6
      | some q =>
        rw [hm] at h6
        obtain ⟨x, H2⟩ := q
        obtain ⟨nx, v, w', φ', h7, h8, h9, h10⟩ := mem_sound hcomp' hopd hi1.stp.sim.sim hm
        exact after h10 h9 h6 (.inl (op_value hop (hon hg) (not_defer_m hcomp') h7 h8))
    · exact after (.refl hi1.stp.sim.sim) rel_undef h6 (.inl (op_skip hop (hoff hg)))
  | c co =>
    have hie : iE ds s.e = [.e s.e co (dstOf e.o.dst) e.g] := by simp only [iE, he, hlop]
    rw [hie] at h1
    have h' : gq e.g T (callD co (dstOf e.o.dst) (runD (s.ck.flatMap (iCk ds) ++ (rs.flatMap (iStage ds) ++ (p.blk.flatMap (iBlk ds) ++ p.ai.flatMap (iAi ds))))) base TP r lo T H1 D u kk) (runD (s.ck.flatMap (iCk ds) ++ (rs.flatMap (iStage ds) ++ (p.blk.flatMap (iBlk ds) ++ p.ai.flatMap (iAi ds)))) base TP r lo (putD T (dstOf e.o.dst) unitLV) H1 D u kk) = true := h1
    have hcomp' := hcomp
    rw [hlop] at hcomp'
    rcases gq_true h' with ⟨hg, h6⟩ | ⟨hg, h6⟩
    · -- a call
      have fin : ∀ {nx : Next} {fr : Frame}, (∀ c, e.o.op ≠ .defer c) → (execOp a.eval e.o).run P w = .ok nx w → EnterOf P nx fr → (∀ c cs, CallerLands P φ H1 w c cs (lone fr (c :: cs) w) (afterD (dstOf e.o.dst) (runD (s.ck.flatMap (iCk ds) ++ (rs.flatMap (iStage ds) ++ (p.blk.flatMap (iBlk ds) ++ p.ai.flatMap (iAi ds))))) base TP r lo T D u kk)) →
          Lands P φ₀ H₀ w₀ nt b cs (lone (b.atR a (.inRegion ops (s.e :: rest) :: k)) cs w) k (thenK r lo kk) := by
        intro nx fr hnd hrun hen hcl
        have hstep := op_enter (b := b) (k := k) (cs := cs) (rest := rest) hop (hon hg) hnd hrun hen
        obtain ⟨pan, v, H', φ', w', g1, g2, g3⟩ := hcl (b.atR a (.inRegion ops (s.e :: rest) :: k)) cs
        cases pan with
        | none =>
          obtain ⟨x, hx, hs⟩ := g3
          rw [Frame.finish_atR, hop] at hs
          exact after g2 hx g1 (.inr (.head hstep hs))
        | some ev =>
          obtain ⟨x, hx, hs⟩ := g3
          rw [Frame.raise_atR] at hs
          have hstp := hi1.stp.stp.trans g2
          refine ⟨.pan ev, TP, H', D, u, φ', a, cs, w', g1, hstp, ⟨hstp.sim, fun q y hy => ?_, hi1.size, hi1.defs.mono g2.le, hup.mono hstp.le, hth⟩, .refl _ _, .pan _ hx (.head hstep hs)⟩
          obtain ⟨hy1, hy2⟩ := hTP q y hy
          rw [← posOf_of_idx q] at hy1
          obtain ⟨vv, h7, h8⟩ := hi1.tm0 q.idx y hy1 fun x hx => absurd hx (hy2 x)
          exact ⟨vv, h7, h8.mono g2.le⟩
      cases copOf hcomp' with
      | callF hop' hcal hx =>
        rename_i c f xs
        have h7 : (bb (getOs T xs) fun vs => lo.cl (posOf f) vs H1 .none (afterD (dstOf e.o.dst) (runD (s.ck.flatMap (iCk ds) ++ (rs.flatMap (iStage ds) ++ (p.blk.flatMap (iBlk ds) ++ p.ai.flatMap (iAi ds))))) base TP r lo T D u kk)) = true := h6
        obtain ⟨vs, hvs, h8⟩ := bb_true.1 h7
        have hrel : Rels φ vs (c.args.toList.map a.eval) := hopd.list (fun y hy => by rw [hop']; simp [Op.operands, Call.operands, hcal, hy]) hx hvs
        have h9 : callVal (.func (posOf f) []) vs lo H1 (afterD (dstOf e.o.dst) (runD (s.ck.flatMap (iCk ds) ++ (rs.flatMap (iStage ds) ++ (p.blk.flatMap (iBlk ds) ++ p.ai.flatMap (iAi ds))))) base TP r lo T D u kk) = true := by
          show lo.cl (posOf f) (vs ++ []) H1 .none _ = true
          rw [List.append_nil]; exact h8
        have hfv : Rel φ (.func (posOf f) []) (a.eval (.func f)) := by
          have := Rel.func (φ := φ) (posOf f) (caps := []) (cs := []) .nil
          rw [posOf_idx] at this; exact this
        obtain ⟨nx, fr, h10, h11, h12⟩ := callVal_sound hlo hi1.stp.sim.sim hfv hrel h9
        exact fin (fun c' e' => by rw [hop'] at e'; cases e') (by rw [execOp_callV hop' hcal]; exact h10) h11 h12
      | callV hop' hcal hfo hx =>
        rename_i c fo f xs
        have h7 : (bb (getOs T xs) fun vs => bb (getO f T) fun f => callVal f vs lo H1 (afterD (dstOf e.o.dst) (runD (s.ck.flatMap (iCk ds) ++ (rs.flatMap (iStage ds) ++ (p.blk.flatMap (iBlk ds) ++ p.ai.flatMap (iAi ds))))) base TP r lo T D u kk)) = true := h6
        simp only [bb_true] at h7
        obtain ⟨vs, hvs, fv, hfv, h9⟩ := h7
        have hrel : Rels φ vs (c.args.toList.map a.eval) := hopd.list (fun y hy => by rw [hop']; simp [Op.operands, Call.operands, hcal, hy]) hx hvs
        have hfr : Rel φ fv (a.eval fo) := hopd.one (by rw [hop']; simp [Op.operands, Call.operands, hcal]) hfo hfv
        obtain ⟨nx, fr, h10, h11, h12⟩ := callVal_sound hlo hi1.stp.sim.sim hfr hrel h9
        exact fin (fun c' e' => by rw [hop'] at e'; cases e') (by rw [execOp_callV hop' hcal]; exact h10) h11 h12
      | dfr _ _ _ _ => cases h6
      | recover _ _ => cases h6
      | panic _ _ => cases h6
      | next _ _ => cases h6
    · exact after (.refl hi1.stp.sim.sim) rel_undef h6 (.inl (op_skip hop (hoff hg)))
end
end Go.LX

/- LX, part 46: regions that draw their order: every order. -/
namespace Go.LX
section
variable {P : Program} {nt : Nat} {ops : Array Oper} {ds : List DOp} {p : Plan} {base : Pos} {T₀ : Trie LV} {φ₀ : Phi} {H₀ : Heap} {w₀ : World} {D : List LDef} {TP : Trie LV} {r : Run} {lo : Lo} {u : Pan} {kk : K}

def lst (l : Array Bool) (x : Nat) : Bool := l.getD x false
theorem lst_set {l : Array Bool} {x : Nat} (hx : x < l.size) : lst (l.setIfInBounds x true) = fun y => decide (y = x) || lst l y := by
  funext y
  unfold lst
  rw [Array.getD_eq_getD_getElem?, Array.getD_eq_getD_getElem?, Array.getElem?_setIfInBounds]
  by_cases e : x = y
  · subst e; simp [hx]
  · have : ¬ y = x := fun h => e h.symm
    simp [e, this]
/-- the operations that are left -/
def left (l : Array Bool) : Nat := (List.range l.size).countP fun x => !lst l x
theorem ready_spec {l : Array Bool} (hsz : l.size = ops.size) {x : Nat} : x ∈ Region.ready .any ops l ↔ x < ops.size ∧ lst l x = false ∧ ∃ o, ops[x]? = some o ∧ ∀ e ∈ o.after.toList, Region.binds .any e = true → lst l e.on = true := by
  unfold Region.ready
  simp only [List.mem_filter, List.mem_range, Bool.and_eq_true, Bool.not_eq_true']
  constructor
  · rintro ⟨h1, h2, h3⟩
    refine ⟨h1, ?_, ops[x], by simp [h1], fun e he hb => ?_⟩
    · have : x < l.size := by rw [hsz]; exact h1
      unfold lst
      rw [Array.getD_eq_getD_getElem?, Array.getElem?_eq_getElem this] at h2 ⊢
      exact h2
    · have h4 : ops[x]? = some ops[x] := by simp [h1]
      rw [h4] at h3
      simp only [Option.map_some, Option.getD_some] at h3
      rw [Array.all_eq_true_iff_forall_mem] at h3
      have := h3 e (Array.mem_toList_iff.1 he)
      rw [hb] at this
      simpa [lst] using this
  · rintro ⟨h1, h2, o, ho, h3⟩
    refine ⟨h1, ?_, ?_⟩
    · have : x < l.size := by rw [hsz]; exact h1
      unfold lst at h2
      rw [Array.getD_eq_getD_getElem?, Array.getElem?_eq_getElem this] at h2 ⊢
      exact h2
    · rw [ho]
      simp only [Option.map_some, Option.getD_some]
      rw [Array.all_eq_true_iff_forall_mem]
      intro e he
      cases hb : Region.binds .any e with
      | false => rfl
      | true => have := h3 e (Array.mem_toList_iff.2 he) hb; simpa [lst] using this

theorem any_order (hok : DsOk P nt ops ds) (hl : Looks ops ds) (hu : Uniq ds) (hlo : LoSound P lo) (hbase : H₀.next = base) {b : Frame} {cs : List Frame} {k : List Item} (hup : UpRel φ₀ b.kind b.roundOf u cs) (hth : (P.funcs[b.fn]?).isSome = true)
    (hTP : ∀ q v, TP.get q = some v → T₀.get q = some v ∧ ∀ x, ¬ Wr ds x q.idx) : ∀ (fuel t : Nat) {l : Array Bool} {C J : Nat} {T : Trie LV} {H : Heap} {L : Pos → Option LO} {φ : Phi} {a : Act} {w : World} (U : List Nat), l.size = ops.size → (∀ x, x < ops.size → lst l x = false → x ∈ U) → U.length ≤ fuel →
      Inv P nt ops ds base T₀ φ₀ H₀ w₀ D C J T H L (lst l) φ a w → Ph ds p base TP r lo u kk D C J T H →
      Lands P φ₀ H₀ w₀ nt b cs (lone (b.atR a (.inRegion ops (Region.linearise.go .any ops fuel t l []) :: k)) cs w) k (thenK r lo kk) := by
  -- what is ready may be carried out
  have hready : ∀ {l : Array Bool} {C J : Nat} {T : Trie LV} {H : Heap} {L : Pos → Option LO} {φ : Phi} {a : Act} {w : World}, Inv P nt ops ds base T₀ φ₀ H₀ w₀ D C J T H L (lst l) φ a w → ∀ (x : Nat) (d : DOp), ds[x]? = some d → (∀ e ∈ d.o.after.toList, Region.binds .any e = true → lst l e.on = true) → ∀ i, hasBit d.bef i = true → lst l i = true := by
    intro l C J T H L φ a w hi x d hd hr i hb
    obtain ⟨e, he, hbi, h⟩ := (hok.bef x d hd i).1 hb
    rcases h with rfl | ⟨d', hd', _, h2⟩
    · exact hr e he hbi
    · exact hi.cls e.on d' hd' (hr e he hbi) i h2
  -- the end
  have hend : ∀ {l : Array Bool} {C J : Nat} {T : Trie LV} {H : Heap} {L : Pos → Option LO} {φ : Phi} {a : Act} {w : World}, l.size = ops.size → (∀ x, x < ops.size → lst l x = true) → Inv P nt ops ds base T₀ φ₀ H₀ w₀ D C J T H L (lst l) φ a w → Ph ds p base TP r lo u kk D C J T H →
      Lands P φ₀ H₀ w₀ nt b cs (lone (b.atR a (.inRegion ops [] :: k)) cs w) k (thenK r lo kk) := by
    intro l C J T H L φ a w hsz hall hi hph
    cases hph with
    | stage he hE hC hp hck hai hst hblk hae hall' h =>
      exfalso
      rename_i s rs e J1 eF CF JF CE JE
      have := hi.sub s.e (hall s.e (by rw [← hok.len]; exact (List.getElem?_eq_some_iff.1 he).1))
      rw [this] at hC; cases hC
    | last hae hallC h =>
      have hS : ∀ (xs : List Nat) (J J1 : Nat), aiOk ds C none xs J = some J1 → ∀ x ∈ xs, lst l x = true := by
        intro xs
        induction xs with
        | nil => intro J J1 _ x hx; cases hx
        | cons y ys ih =>
          intro J J1 hh x hx
          obtain ⟨d, hd, _, _, _, _, h7⟩ := aiOk_cons hh
          rcases List.mem_cons.1 hx with rfl | hx
          · exact hall _ (by rw [← hok.len]; exact (List.getElem?_eq_some_iff.1 hd).1)
          · exact ih _ _ h7 x hx
      have h0 : runD (p.ai.flatMap (iAi ds) ++ []) base TP r lo T H D u kk = true := by rw [List.append_nil]; exact h
      obtain ⟨H1, L1, h1, hi1⟩ := ai_run (rest := []) hok hae (hS _ _ _ hae) hi h0
      have h2 : r lo T H1 D u kk = true := h1
      have hstp := hi1.stp.stp
      refine ⟨.nrm, T, H1, D, u, φ, a, cs, w, h2, hstp, ⟨hstp.sim, fun q y hy => ?_, hi1.size, hi1.defs, hup.mono hstp.le, hth⟩, .refl _ _, .nrm (.one stepR_region_end)⟩
      rw [← posOf_of_idx q] at hy
      exact hi1.tm1 q.idx y hy fun x ⟨d, hd, _⟩ => hall x (by rw [← hok.len]; exact (List.getElem?_eq_some_iff.1 hd).1)
  -- where nothing is ready, all has been listed
  have hnone : ∀ {l : Array Bool} {C J : Nat} {T : Trie LV} {H : Heap} {L : Pos → Option LO} {φ : Phi} {a : Act} {w : World}, l.size = ops.size → Inv P nt ops ds base T₀ φ₀ H₀ w₀ D C J T H L (lst l) φ a w → Ph ds p base TP r lo u kk D C J T H → Region.ready .any ops l = [] → ∀ x, x < ops.size → lst l x = true := by
    intro l C J T H L φ a w hsz hi hph hr x hx
    obtain ⟨CE, hreach, hall⟩ : ∃ CE, Reach ds CE ∧ ∀ (i : Nat) (d : DOp), ds[i]? = some d → hasBit CE i = true := by
      cases hph with
      | stage he hE hC hp hck hai hst hblk hae hall h => exact ⟨_, (blkOk_spec hblk).2.2 (stOk_reach (p := p) hst (.add hi.reach he hp)), hall⟩
      | last hae hall h => exact ⟨_, hi.reach, hall⟩
    have hxl : x < ds.length := by rw [hok.len]; exact hx
    refine hreach.all (S := lst l) (fun y d hd hb => ?_) (hall x _ (List.getElem?_eq_getElem hxl))
    cases hs : lst l y with
    | true => rfl
    | false =>
      have : y ∈ Region.ready .any ops l := (ready_spec hsz).2 ⟨by rw [← hok.len]; exact (List.getElem?_eq_some_iff.1 hd).1, hs, d.o, (hok.op y d hd).1, fun e he hbi => hb e.on ((hok.bef y d hd e.on).2 ⟨e, he, hbi, .inl rfl⟩)⟩
      rw [hr] at this; cases this
  intro fuel
  induction fuel with
  | zero =>
    intro t l C J T H L φ a w U hsz hU hlen hi hph
    have hU0 : U = [] := List.eq_nil_of_length_eq_zero (by omega)
    refine hend hsz (fun x hx => ?_) hi hph
    cases hs : lst l x with
    | true => rfl
    | false => have := hU x hx hs; rw [hU0] at this; cases this
  | succ fuel ih =>
    intro t l C J T H L φ a w U hsz hU hlen hi hph
    show Lands P φ₀ H₀ w₀ nt b cs (lone (b.atR a (.inRegion ops (match (Region.ready .any ops l)[t % (Region.ready .any ops l).length]? with
      | some i => Region.linearise.go .any ops fuel (t / (Region.ready .any ops l).length) (l.setIfInBounds i true) [i]
      | none => [].reverse) :: k)) cs w) k (thenK r lo kk)
    cases hx : (Region.ready .any ops l)[t % (Region.ready .any ops l).length]? with
    | none =>
      have hnil : Region.ready .any ops l = [] := by
        cases hr : Region.ready .any ops l with
        | nil => rfl
        | cons y ys =>
          rw [hr] at hx
          have hlt : t % (y :: ys).length < (y :: ys).length := Nat.mod_lt _ (by simp)
          rw [List.getElem?_eq_getElem hlt] at hx; cases hx
      exact hend hsz (hnone hsz hi hph hnil) hi hph
    | some x =>
      have hm := (ready_spec hsz).1 (List.mem_of_getElem? hx)
      obtain ⟨hxlt, hxl, o, ho, hr⟩ := hm
      have hxd : x < ds.length := by rw [hok.len]; exact hxlt
      obtain ⟨d, hd⟩ : ∃ d, ds[x]? = some d := ⟨_, List.getElem?_eq_getElem hxd⟩
      have hdo : d.o = o := by have := (hok.op x d hd).1; rw [ho] at this; cases this; rfl
      rw [← hdo] at hr
      have hbef := hready hi x d hd hr
      simp only []
      rw [linearise_go_acc, List.reverse_singleton, List.singleton_append]
      have hsz' : (l.setIfInBounds x true).size = ops.size := by simp [hsz]
      have hset := lst_set (l := l) (x := x) (by rw [hsz]; exact hxlt)
      have hxU : x ∈ U := hU x hxlt hxl
      have hU' : ∀ y, y < ops.size → lst (l.setIfInBounds x true) y = false → y ∈ U.erase x := by
        intro y hy hyl
        rw [hset] at hyl
        simp only [Bool.or_eq_false_iff, decide_eq_false_iff_not] at hyl
        exact (List.mem_erase_of_ne hyl.1).2 (hU y hy hyl.2)
      have hlen' : (U.erase x).length ≤ fuel := by rw [List.length_erase_of_mem hxU]; omega
      by_cases hC : hasBit C x = true
      · have hE : isE d.lop = false := by
          cases hE : isE d.lop with
          | false => rfl
          | true => rw [hi.ees x d hd hE hC] at hxl; cases hxl
        obtain ⟨φ', a', w', L', hstep, hi'⟩ := hi.run1 hok hu hbase hd hE hC hxl hbef b (Region.linearise.go .any ops fuel (t / (Region.ready .any ops l).length) (l.setIfInBounds x true) []) k cs
        rw [← hset] at hi'
        exact (ih _ (U.erase x) hsz' hU' hlen' hi' hph).of_steps (.one hstep)
      · have hC : hasBit C x = false := by simpa using hC
        cases hph with
        | last hae hall h => exact absurd (hall x d hd) (by rw [hC]; simp)
        | stage he hE hCe hp hck hai hst hblk hae hall h =>
          rename_i s rs e J1 eF CF JF CE JE
          have hxe : x = s.e := by
            apply Classical.byContradiction
            intro hne
            obtain ⟨e', h1, h2⟩ := stOk_late (p := p) hst hblk hall x d hd (by rw [hasBit_add, hC]; simp; exact fun h => hne h.symm)
            have h3 := hi.sub e' (hbef e' h1)
            rcases h2 with rfl | h2
            · rw [h3] at hCe; cases hCe
            · rw [hasBit_add, h3] at h2; cases h2
          subst hxe
          rw [hd] at he; cases he
          refine e_exec hok hl hu hlo hup hth hTP hd hE hCe hp hck hai hst hblk hae hall h hi hbef (fun {C' J' T' H' L' φ' a' w'} hi' hph' => ?_)
          rw [← hset] at hi'
          exact ih _ (U.erase s.e) hsz' hU' hlen' hi' hph'
end
end Go.LX

/- LX, part 47: regions that draw their order; the whole law. -/
namespace Go.LX
section
variable {P : Program}

theorem eraseAll_get : ∀ (xs : List Pos) (T : Trie LV) (q : Pos) (v : LV), (eraseAll xs T).get q = some v → T.get q = some v ∧ q ∉ xs
  | [], T, q, v, h => ⟨h, fun h => by cases h⟩
  | x :: xs, T, q, v, h => by
    have h' : (eraseAll xs (T.put none x)).get q = some v := h
    obtain ⟨h1, h2⟩ := eraseAll_get xs _ q v h'
    rw [Trie.get_put] at h1
    split at h1
    · cases h1
    · rename_i hne
      exact ⟨h1, fun hm => by rcases List.mem_cons.1 hm with e | hm; · exact hne e
                              · exact h2 hm⟩
theorem drw_sound (hmix : P.follows .mixedOrders = true) : DrwSound P := by
  intro lo hlo nt id ops lk T H D u kk φ b a cs w k hf h
  unfold compDrw at h
  split at h
  · rename_i ds hds
    simp only at h
    split at h
    · rename_i hpl
      generalize hp : sched (ds.zipIdx.map fun (d, i) => (i, d)) ((ds.zipIdx.map fun (d, i) => (i, d)).filter fun d => isE d.2.lop) ((ds.zipIdx.map fun (d, i) => (i, d)).filter fun d => !isE d.2.lop) [] = p at h hpl
      have hok := dsOk_of hds
      simp only [planOk, Bool.and_eq_true] at hpl
      obtain ⟨⟨hnd, hlk⟩, hst⟩ := hpl
      have hu := nodup_uniq hnd
      have hl := looks_of hlk
      split at hst
      · rename_i eF CF JF hst0
        split at hst
        · rename_i CE hblk
          split at hst
          · rename_i JE hae
            have hall : ∀ (i : Nat) (d : DOp), ds[i]? = some d → hasBit CE i = true := fun i d hd => by
              have := List.all_eq_true.1 hst (d, i) (by rw [List.mem_zipIdx_iff_getElem?]; exact hd)
              simp only [Bool.and_eq_true, isIn] at this
              exact this.1
            have h' : runD (iPlan ds p) H.next (eraseAll ((ds.flatMap dstT).map posOf) T) (run lk) lo T ⟨posAdd H.next (newNo ds ds.length), H.t, H.fs⟩ D u kk = true := h
            have hS0 : ∀ x, lst (Array.replicate ops.size false) x = false := fun x => by
              unfold lst; rw [Array.getD_eq_getD_getElem?, Array.getElem?_replicate]; split <;> rfl
            have hi : Inv P nt ops ds H.next T φ H w D 0 0 T ⟨posAdd H.next (newNo ds ds.length), H.t, H.fs⟩ (fun _ => none) (lst (Array.replicate ops.size false)) φ a (w.drewN 1) := by
              refine ⟨StpL.start hf.sim (by rw [posAdd_toNat]; omega) 1, Nat.le_refl _, fun x hx => ?_, fun x d _ _ hx => ?_, fun x d _ hx => ?_, .zero, fun _ _ => rfl, fun t v hv _ => ?_, fun t v hv _ => ?_, hf.size, hf.defs, fun x d _ _ hx => ?_, fun x d hd hA _ => ?_, fun x d _ _ hx => ?_⟩
              · rw [hS0] at hx; cases hx
              · rw [hasBit_zero] at hx; cases hx
              · rw [hS0] at hx; cases hx
              · have := hf.tmps _ v hv; rwa [posOf_idx] at this
              · have := hf.tmps _ v hv; rwa [posOf_idx] at this
              · rw [hasBit_zero] at hx; cases hx
              · exact hf.sim.fresh _ (by simp only [nm, posAdd_toNat]; omega)
              · rw [hS0] at hx; cases hx
            have hTP : ∀ q v, (eraseAll ((ds.flatMap dstT).map posOf) T).get q = some v → T.get q = some v ∧ ∀ x, ¬ Wr ds x q.idx := by
              intro q v hq
              obtain ⟨h1, h2⟩ := eraseAll_get _ _ _ _ hq
              refine ⟨h1, fun x ⟨d, hd, ht⟩ => h2 (List.mem_map.2 ⟨q.idx, List.mem_flatMap.2 ⟨d, List.mem_of_getElem? hd, by simp [dstT, ht]⟩, posOf_of_idx q⟩)⟩
            obtain ⟨C1, T1, hi1, hph⟩ := enter_phase (p := p) hok hl hu hst0 hblk hae hall hi h'
            have := any_order (k := k) hok hl hu hlo rfl hf.up hf.there hTP ops.size (w.tape w.drawn (.order b.fn id)) (List.range ops.size) (by simp) (fun x hx _ => List.mem_range.2 hx) (by simp) hi1 hph
            refine this.of_steps (.one ?_)
            rw [stepR_region_draw]
            simp only [Region.schedule, hmix, Bool.true_or, if_true, Region.linearise]
            rfl
          · cases hst
        · cases hst
      · cases hst
    · cases h
  · cases h
end
end Go.LX

/- LX, part 48: a call, told by a run. -/
namespace Go.LX
section
variable {P : Program}

theorem sim_nil (P : Program) (w : World) : Sim P (fun _ => none) ⟨.h, .lf, []⟩ w :=
  ⟨fun _ _ => rfl, fun p o h => by (have h' : (Trie.lf : Trie LO).get p = some o := h; rw [Trie.get_lf] at h'; cases h'), fun p q o o' B h => by (have h' : (Trie.lf : Trie LO).get p = some o := h; rw [Trie.get_lf] at h'; cases h'), .nil⟩
/-- how a call that has been run ends -/
def TopEnd (P : Program) (φ : Phi) (H : Heap) (w : World) (k : Option LV → LV → Heap → Bool) : Ending → World → Prop
  | .returned x, w' => ∃ v H' φ', k none v H' = true ∧ Stp P φ H w φ' H' w' ∧ Rel φ' v x
  | .panicked c, w' => ∃ e v H' φ' x, k (some e) v H' = true ∧ Stp P φ H w φ' H' w' ∧ Rel φ' e x ∧ c = [{ v := x, recovered := false }]
  | .outgrown, _ => False
theorem calls_of_top (hmix : P.follows .mixedOrders = true) {sums : Trie Sum} (hsums : ∀ f s, sums.get f = some s → SumSound P s f) {n : Nat} {f : Nat} {args : List LV} {vs : List Value} {φ : Phi} {H : Heap} {w : World} {k : Option LV → LV → Heap → Bool}
    (hs : Sim P φ H w) (hr : Rels φ args vs) (h : callTop (fnsOf P) sums n (posOf f) args H k = true) : Calls P f vs.toArray w (TopEnd P φ H w k) := by
  intro cs
  have hlo := lo_sound (drw_sound hmix) hsums n
  have h' : (loN (fnsOf P) sums n).cl (posOf f) args H .none (fun p v H _ => k p v H) = true := h
  obtain ⟨_, pan, v, H', u', φ', w', cs', fr, h1, h2, h3, h4, h5, h6, h7, h8⟩ := hlo.cl (posOf f) args vs φ H w .none .normal cs _ h' hs hr (.none rfl rfl)
  have e := h4.normal rfl
  subst e
  rw [posOf_idx] at h5 h7
  cases pan with
  | none =>
    obtain ⟨x, hx, hm, hd, hf⟩ := h8
    exact ⟨.returned x, w', fr, ⟨v, H', φ', h1, h2, hx⟩, h5, h7, hm, hd, h6, hf⟩
  | some ev =>
    obtain ⟨x, hx, hm, hd, hf⟩ := h8
    exact ⟨.panicked _, w', fr, ⟨ev, v, H', φ', x, h1, h2, hx, rfl⟩, h5, h7, hm, hd, hf⟩
end
end Go.LX

/- LX, part 49: runs that are kept: a call that has been done once, over a part of the heap. -/
namespace Go.LX
noncomputable section
def putAll (l : List (Pos × LO)) (t : Trie LO) : Trie LO := @List.rec (Pos × LO) (fun _ => Trie LO) t (fun x _ ih => ih.put (some x.2) x.1) l
def dropAll (l : List (Pos × LO)) (t : Trie LO) : Trie LO := @List.rec (Pos × LO) (fun _ => Trie LO) t (fun x _ ih => ih.put none x.1) l
def olvEq (a b : Option LV) : Bool := @Option.rec LV (fun _ => Bool) (@Option.rec LV (fun _ => Bool) true (fun _ => false) b) (fun x => @Option.rec LV (fun _ => Bool) false (fun y => lvEq x y) b) a
def trEq : Trie LV → Trie LV → Bool
  | .lf, .lf => true
  | .nd l v r, .nd l' v' r' => ib (olvEq v v') (ib (trEq l l') (trEq r r') false) false
  | _, _ => false
def entsEq : List Ent → List Ent → Bool
  | [], [] => true
  | e :: es, f :: fs => ib (lvEq e.key f.key) (ib (lvEq e.val f.val) (ib (Nat.beq e.born f.born) (entsEq es fs) false) false) false
  | _, _ => false
def loEq : LO → LO → Bool
  | .cells a, .cells b => trEq a b
  | .map es c, .map fs d => ib (entsEq es fs) (Nat.beq c d) false
  | _, _ => false
def subH (l : List (Pos × LO)) (t : Trie LO) : Bool := @List.rec (Pos × LO) (fun _ => Bool) true (fun x _ ih => ib (bb (t.get x.1) fun o => loEq x.2 o) ih false) l
structure Memo where
  args : List LV
  next : Pos
  l : List (Pos × LO)
  v : LV
  next' : Pos
  l' : List (Pos × LO)
def memoK (m : Memo) : Option LV → LV → Heap → Bool := fun p u H => @Option.rec LV (fun _ => Bool) (ib (lvEq m.v u) (ib (posEq m.next' H.next) (subH m.l' H.t) false) false) (fun _ => false) p
def memoSum (ms : List Memo) : Sum := fun args H kc els =>
  @List.rec Memo (fun _ => Bool) els (fun m _ ih => ib (lvEq.lvEqs args m.args) (ib (posEq m.next H.next) (ib (subH m.l H.t) (kc none m.v ⟨m.next', putAll m.l' (dropAll m.l H.t), H.fs⟩ .none) ih) ih) ih) ms
def Memo.ok (fns : Trie LFunc) (sums : Trie Sum) (n : Nat) (f : Pos) (m : Memo) : Prop := callTop fns sums n f m.args ⟨m.next, putAll m.l .lf, []⟩ (memoK m) = true
end
section
variable {P : Program}
theorem olvEq_eq {a b : Option LV} (h : olvEq a b = true) : a = b := by
  cases a with
  | none => cases b with
    | none => rfl
    | some y => cases h
  | some x => cases b with
    | none => cases h
    | some y => rw [lvEq_eq x y h]
theorem trEq_eq : ∀ (a b : Trie LV), trEq a b = true → a = b
  | .lf, .lf, _ => rfl
  | .nd l v r, .nd l' v' r', h => by
    simp only [trEq, ib_ff] at h
    rw [olvEq_eq h.1, trEq_eq l l' h.2.1, trEq_eq r r' h.2.2]
  | .lf, .nd _ _ _, h => by cases h
  | .nd _ _ _, .lf, h => by cases h
theorem entsEq_eq : ∀ (a b : List Ent), entsEq a b = true → a = b
  | [], [], _ => rfl
  | ⟨k, v, n⟩ :: es, ⟨k', v', n'⟩ :: fs, h => by
    simp only [entsEq, ib_ff] at h
    obtain ⟨h1, h2, h3, h4⟩ := h
    rw [lvEq_eq k k' h1, lvEq_eq v v' h2, beq_iff.1 h3, entsEq_eq es fs h4]
  | [], _ :: _, h => by cases h
  | _ :: _, [], h => by cases h
theorem loEq_eq {a b : LO} (h : loEq a b = true) : a = b := by
  cases a with
  | cells a => cases b with
    | cells b => rw [trEq_eq a b h]
    | _ => cases h
  | map es c => cases b with
    | map fs d =>
      have h' : ib (entsEq es fs) (Nat.beq c d) false = true := h
      rw [ib_ff] at h'
      rw [entsEq_eq es fs h'.1, beq_iff.1 h'.2]
    | _ => cases h
  | _ => cases b <;> cases h
theorem putAll_get : ∀ {l : List (Pos × LO)} {t : Trie LO} {p : Pos} {o : LO}, (putAll l t).get p = some o → (p, o) ∈ l ∨ ((∀ x ∈ l, x.1 ≠ p) ∧ t.get p = some o)
  | [], t, p, o, h => .inr ⟨fun _ h => (by cases h), h⟩
  | x :: l, t, p, o, h => by
    have h' : ((putAll l t).put (some x.2) x.1).get p = some o := h
    rw [Trie.get_put] at h'
    split at h'
    · rename_i e; cases h'; exact .inl (by rw [e]; exact List.mem_cons_self ..)
    · rename_i hne
      rcases putAll_get h' with h1 | ⟨h1, h2⟩
      · exact .inl (List.mem_cons_of_mem _ h1)
      · exact .inr ⟨fun y hy => by rcases List.mem_cons.1 hy with e | hy; · exact e ▸ Ne.symm hne
                                   · exact h1 y hy, h2⟩
theorem putAll_none : ∀ {l : List (Pos × LO)} {t : Trie LO} {p : Pos}, (putAll l t).get p = none → (∀ x ∈ l, x.1 ≠ p) ∧ t.get p = none
  | [], t, p, h => ⟨fun _ h => (by cases h), h⟩
  | x :: l, t, p, h => by
    have h' : ((putAll l t).put (some x.2) x.1).get p = none := h
    rw [Trie.get_put] at h'
    split at h'
    · cases h'
    · rename_i hne
      obtain ⟨h1, h2⟩ := putAll_none h'
      exact ⟨fun y hy => by rcases List.mem_cons.1 hy with e | hy; · exact e ▸ Ne.symm hne
                            · exact h1 y hy, h2⟩
theorem dropAll_get : ∀ {l : List (Pos × LO)} {t : Trie LO} {p : Pos} {o : LO}, (dropAll l t).get p = some o → (∀ x ∈ l, x.1 ≠ p) ∧ t.get p = some o
  | [], t, p, o, h => ⟨fun _ h => (by cases h), h⟩
  | x :: l, t, p, o, h => by
    have h' : ((dropAll l t).put none x.1).get p = some o := h
    rw [Trie.get_put] at h'
    split at h'
    · cases h'
    · rename_i hne
      obtain ⟨h1, h2⟩ := dropAll_get h'
      exact ⟨fun y hy => by rcases List.mem_cons.1 hy with e | hy; · exact e ▸ Ne.symm hne
                            · exact h1 y hy, h2⟩
theorem subH_get : ∀ {l : List (Pos × LO)} {t : Trie LO}, subH l t = true → ∀ x ∈ l, t.get x.1 = some x.2
  | [], t, h, x, hx => by cases hx
  | y :: l, t, h, x, hx => by
    have h' : ib (bb (t.get y.1) fun o => loEq y.2 o) (subH l t) false = true := h
    rw [ib_ff, bb_true] at h'
    obtain ⟨⟨o, ho, he⟩, h2⟩ := h'
    rcases List.mem_cons.1 hx with e | hx
    · rw [e, ho, loEq_eq he]
    · exact subH_get h2 x hx
section
variable {φ φ' : Phi} {H : Heap} {w w' : World}
/-- a part of the heap takes a step; the rest stays -/
theorem part_step (hs : Sim P φ H w) {next' : Pos} {l l' : List (Pos × LO)} {H' : Heap} (hl : ∀ x ∈ l, H.t.get x.1 = some x.2) (hst : Stp P φ ⟨H.next, putAll l .lf, []⟩ w φ' H' w') (hn : H'.next = next') (hl' : ∀ x ∈ l', H'.t.get x.1 = some x.2) :
    Stp P φ H w φ' ⟨next', putAll l' (dropAll l H.t), H.fs⟩ w' := by
  have hin : ∀ p o, (putAll l (.lf : Trie LO)).get p = some o → H.t.get p = some o ∧ ∃ x ∈ l, x.1 = p := by
    intro p o h
    rcases putAll_get h with h1 | ⟨_, h1⟩
    · exact ⟨hl _ h1, _, h1, rfl⟩
    · rw [Trie.get_lf] at h1; cases h1
  have hlt : ∀ p o B, H.t.get p = some o → physB φ p = some B → B < w.heap.size := by
    intro p o B hp hB
    obtain ⟨B', hB', h⟩ := (hs.blk p o hp).phys
    rw [hB] at hB'; cases hB'; exact h
  -- what stays
  have hsep : ∀ p o B, H.t.get p = some o → (∀ x ∈ l, x.1 ≠ p) → physB φ p = some B → ∀ q o', (putAll l (.lf : Trie LO)).get q = some o' → physB φ q ≠ some B := by
    intro p o B hp hno hB q o' hq hB'
    obtain ⟨h1, x, hx, e⟩ := hin q o' hq
    have := hs.sep p q o o' B hp h1 hB hB'
    exact hno x hx (e.trans this.symm)
  have hlow : ∀ p o, H.t.get p = some o → p.toNat < H.next.toNat := by
    intro p o hp
    rcases Nat.lt_or_ge p.toNat H.next.toNat with h | h
    · exact h
    · obtain ⟨B, hB, _⟩ := (hs.blk p o hp).phys
      rw [physB, hs.fresh p h] at hB; cases hB
  have hphi : ∀ p o, H.t.get p = some o → φ' p = φ p := fun p o hp => hst.low p (hlow p o hp)
  have hphB : ∀ p o, H.t.get p = some o → physB φ' p = physB φ p := fun p o hp => by simp only [physB, hphi p o hp]
  have hgo : ∀ p o, (putAll l' (dropAll l H.t)).get p = some o → H'.t.get p = some o ∨ ((∀ x ∈ l, x.1 ≠ p) ∧ H.t.get p = some o) := by
    intro p o hp
    rcases putAll_get hp with h1 | ⟨_, h1⟩
    · exact .inl (hl' _ h1)
    · exact .inr (dropAll_get h1)
  refine ⟨⟨fun p hp => hst.sim.fresh p (by rw [hn]; exact hp), fun p o hp => ?_, fun p q o o' B hp hq hB hB' => ?_, hs.facts.mono hst.le⟩, hst.le, hst.low, ⟨hst.fr.tape, hst.fr.os, hst.fr.out, hst.fr.size, fun B hB hno => hst.fr.keep B hB fun p o hp => hno p o (hin p o hp).1⟩, fun p o B hp hB => ?_, by rw [← hn]; exact hst.next⟩
  · rcases hgo p o hp with h1 | ⟨h1, h2⟩
    · exact hst.sim.blk p o h1
    · exact (hs.blk p o h2).mono hst.le (fun B hB => hst.fr.keep B (hlt p o B h2 hB) (hsep p o B h2 h1 hB)) hst.fr.size
  · have key : ∀ p q o o', H'.t.get p = some o → (∀ x ∈ l, x.1 ≠ q) → H.t.get q = some o' → physB φ' p = some B → physB φ' q = some B → False := by
      intro p q o o' h1 h2 h3 h4 h5
      rw [hphB q o' h3] at h5
      rcases hst.foot p o B h1 h4 with h6 | ⟨r, o'', hr, hrB⟩
      · have := hlt q o' B h3 h5; omega
      · exact hsep q o' B h3 h2 h5 r o'' hr hrB
    rcases hgo p o hp with h1 | ⟨h1, h2⟩ <;> rcases hgo q o' hq with h3 | ⟨h3, h4⟩
    · exact hst.sim.sep p q o o' B h1 h3 hB hB'
    · exact (key p q o o' h1 h3 h4 hB hB').elim
    · exact (key q p o' o h3 h1 h2 hB' hB).elim
    · rw [hphB p o h2] at hB; rw [hphB q o' h4] at hB'
      exact hs.sep p q o o' B h2 h4 hB hB'
  · rcases hgo p o hp with h1 | ⟨h1, h2⟩
    · exact (hst.foot p o B h1 hB).imp id fun ⟨q, o', hq, hqB⟩ => ⟨q, o', (hin q o' hq).1, hqB⟩
    · rw [hphB p o h2] at hB; exact .inr ⟨p, o, h2, hB⟩
end
theorem memo_sound (hmix : P.follows .mixedOrders = true) {sums : Trie Sum} (hsums : ∀ f s, sums.get f = some s → SumSound P s f) {n : Nat} {f : Pos} : ∀ {ms : List Memo}, (∀ m ∈ ms, m.ok (fnsOf P) sums n f) → SumSound P (memoSum ms) f
  | [], _ => fun args vs φ H w kind cs kc els h _ _ _ => .inl h
  | m :: ms, hm => fun args vs φ H w kind cs kc els h hs hargs hup => by
    have ih := memo_sound hmix hsums (fun m' hm' => hm m' (List.mem_cons_of_mem _ hm')) args vs φ H w kind cs kc els
    have h' : ib (lvEq.lvEqs args m.args) (ib (posEq m.next H.next) (ib (subH m.l H.t) (kc none m.v ⟨m.next', putAll m.l' (dropAll m.l H.t), H.fs⟩ .none) (memoSum ms args H kc els)) (memoSum ms args H kc els)) (memoSum ms args H kc els) = true := h
    rw [ib_eq] at h'
    split at h'
    · rename_i h1
      rw [ib_eq] at h'
      split at h'
      · rename_i h2
        rw [ib_eq] at h'
        split at h'
        · rename_i h3
          refine .inr ?_
          have hmo := hm m (List.mem_cons_self ..)
          have e1 := lvEqs_eq args m.args h1
          have e2 := posEq_eq h2
          subst e1
          have hl := subH_get h3
          have hs' : Sim P φ ⟨m.next, putAll m.l .lf, []⟩ w := by
            refine ⟨by rw [e2]; exact hs.fresh, fun p o hp => ?_, fun p q o o' B hp hq => ?_, .nil⟩
            · rcases putAll_get hp with h4 | ⟨_, h4⟩
              · exact hs.blk p o (hl _ h4)
              · rw [Trie.get_lf] at h4; cases h4
            · have hp' : H.t.get p = some o := by
                rcases putAll_get hp with h4 | ⟨_, h4⟩
                · exact hl _ h4
                · rw [Trie.get_lf] at h4; cases h4
              have hq' : H.t.get q = some o' := by
                rcases putAll_get hq with h4 | ⟨_, h4⟩
                · exact hl _ h4
                · rw [Trie.get_lf] at h4; cases h4
              exact hs.sep p q o o' B hp' hq'
          have hlo := lo_sound (drw_sound hmix) hsums n
          have h5 : (loN (fnsOf P) sums n).cl f m.args ⟨m.next, putAll m.l .lf, []⟩ .none (fun p v H _ => memoK m p v H) = true := hmo
          obtain ⟨h6, pan, v, H', u', φ', w', cs', fr, h7, h8, h9, h10, h11, h12, h13, h14⟩ := hlo.cl f m.args vs φ _ w .none kind cs _ h5 hs' hargs hup
          refine ⟨h6, ?_⟩
          cases pan with
          | some e => cases h7
          | none =>
            have h7' : ib (lvEq m.v v) (ib (posEq m.next' H'.next) (subH m.l' H'.t) false) false = true := h7
            simp only [ib_ff] at h7'
            obtain ⟨e3, e4, e5⟩ := h7'
            have e3 := lvEq_eq _ _ e3
            subst e3
            rw [e2] at h8
            have hstp := part_step hs hl h8 (posEq_eq e4).symm (subH_get e5)
            have h9' : UpRel φ' kind none .none cs' := by
              cases hup with
              | none hk hr =>
                cases h9 with
                | none hk' hr' => exact .none hk' hr'
                | rnd hk' hr' => cases hr'
                | dfr hk' hr' hm' => rw [hk] at hk'; cases hk'
              | dfr hk hr hm' => cases hm'
            exact ⟨none, m.v, _, .none, φ', w', cs', fr, h', hstp, h9', h10, h11, h12, h13, h14⟩
        · exact ih h' hs hargs hup
      · exact ih h' hs hargs hup
    · exact ih h' hs hargs hup
end
end Go.LX
namespace Go.LX
noncomputable section
/-- values without addresses -/
def closedLV : LV → Bool
  | .bool _ | .int _ _ | .str _ _ | .nilptr | .nilslice | .nilmap | .nilfunc | .niliface => true
  | .tup xs => closedLVs xs
  | .agg xs => closedLVs xs
  | _ => false
  where closedLVs : List LV → Bool
  | [] => true
  | x :: xs => ib (closedLV x) (closedLVs xs) false
structure CMemo where
  args : List LV
  v : LV
def cmemoK (m : CMemo) : Option LV → LV → Heap → Bool := fun p u _ => @Option.rec LV (fun _ => Bool) (lvEq m.v u) (fun _ => false) p
def cmemoSum (ms : List CMemo) : Sum := fun args H kc els =>
  @List.rec CMemo (fun _ => Bool) els (fun m _ ih => ib (lvEq.lvEqs args m.args) (kc none m.v H .none) ih) ms
def CMemo.ok (fns : Trie LFunc) (sums : Trie Sum) (n : Nat) (f : Pos) (m : CMemo) : Prop := closedLV.closedLVs (m.v :: m.args) = true ∧ callTop fns sums n f m.args ⟨.h, .lf, []⟩ (cmemoK m) = true
end
section
variable {P : Program}
mutual
theorem closed_rel {φ ψ : Phi} : ∀ {x : LV} {v : Value}, closedLV x = true → Rel φ x v → Rel ψ x v
  | .bool b, _, _, .bool _ => .bool b
  | .int k n, _, _, .int _ _ => .int k n
  | .str l n, _, _, .str _ _ h => .str l n h
  | .nilptr, _, _, .nilptr => .nilptr
  | .nilslice, _, _, .nilslice => .nilslice
  | .nilmap, _, _, .nilmap => .nilmap
  | .nilfunc, _, _, .nilfunc => .nilfunc
  | .niliface, _, _, .niliface => .niliface
  | .tup xs, _, h, .tup hx => .tup (closed_rels h hx)
  | .agg xs, _, h, .agg hx => .agg (closed_rels h hx)
theorem closed_rels {φ ψ : Phi} : ∀ {xs : List LV} {vs : List Value}, closedLV.closedLVs xs = true → Rels φ xs vs → Rels ψ xs vs
  | [], _, _, .nil => .nil
  | x :: xs, _, h, .cons h1 h2 => by
    have h' : ib (closedLV x) (closedLV.closedLVs xs) false = true := h
    rw [ib_ff] at h'
    exact .cons (closed_rel h'.1 h1) (closed_rels h'.2 h2)
end
theorem cmemo_sound (hmix : P.follows .mixedOrders = true) {sums : Trie Sum} (hsums : ∀ f s, sums.get f = some s → SumSound P s f) {n : Nat} {f : Pos} : ∀ {ms : List CMemo}, (∀ m ∈ ms, m.ok (fnsOf P) sums n f) → SumSound P (cmemoSum ms) f
  | [], _ => fun args vs φ H w kind cs kc els h _ _ _ => .inl h
  | m :: ms, hm => fun args vs φ H w kind cs kc els h hs hargs hup => by
    have ih := cmemo_sound hmix hsums (fun m' hm' => hm m' (List.mem_cons_of_mem _ hm')) args vs φ H w kind cs kc els
    have h' : ib (lvEq.lvEqs args m.args) (kc none m.v H .none) (cmemoSum ms args H kc els) = true := h
    rw [ib_eq] at h'
    split at h'
    · rename_i h1
      refine .inr ?_
      obtain ⟨hc, hmo⟩ := hm m (List.mem_cons_self ..)
      have e1 := lvEqs_eq args m.args h1
      subst e1
      have hc' : ib (closedLV m.v) (closedLV.closedLVs m.args) false = true := hc
      rw [ib_ff] at hc'
      have hlo := lo_sound (drw_sound hmix) hsums n
      have hup0 : UpRel (fun _ => none) kind none .none cs := by
        cases hup with
        | none hk hr => exact .none hk hr
        | dfr hk hr hm' => cases hm'
      have h5 : (loN (fnsOf P) sums n).cl f m.args ⟨.h, .lf, []⟩ .none (fun p v H _ => cmemoK m p v H) = true := hmo
      obtain ⟨h6, pan, v, H', u', φ', w', cs', fr, h7, h8, h9, h10, h11, h12, h13, h14⟩ := hlo.cl f m.args vs _ _ w .none kind cs _ h5 (sim_nil P w) (closed_rels hc'.2 hargs) hup0
      refine ⟨h6, ?_⟩
      cases pan with
      | some e => cases h7
      | none =>
        have h7' : lvEq m.v v = true := h7
        have e3 := lvEq_eq _ _ h7'
        subst e3
        have hk : ∀ B, B < w.heap.size → w'.heap[B]? = w.heap[B]? := fun B hB => h8.fr.keep B hB fun p o hp => by
          have hp' : (Trie.lf : Trie LO).get p = some o := hp
          rw [Trie.get_lf] at hp'; cases hp'
        have hstp : Stp P φ H w φ H w' := by
          refine ⟨⟨hs.fresh, fun p o hp => (hs.blk p o hp).mono φ.le_refl (fun B hB => hk B ?_) h8.fr.size, hs.sep, hs.facts⟩, φ.le_refl, fun _ _ => rfl, ⟨h8.fr.tape, h8.fr.os, h8.fr.out, h8.fr.size, fun B hB _ => hk B hB⟩, fun p o B hp hB => .inr ⟨p, o, hp, hB⟩, Nat.le_refl _⟩
          obtain ⟨B', hB', hlt⟩ := (hs.blk p o hp).phys
          rw [hB] at hB'; cases hB'; exact hlt
        have h9' : UpRel φ kind none .none cs' := by
          cases hup with
          | none hk hr =>
            cases h9 with
            | none hk' hr' => exact .none hk' hr'
            | rnd hk' hr' => cases hr'
            | dfr hk' hr' hm' => rw [hk] at hk'; cases hk'
          | dfr hk hr hm' => cases hm'
        obtain ⟨x, hx, hgo⟩ := h14
        exact ⟨none, m.v, H, .none, φ, w', cs', fr, h', hstp, h9', h10, h11, h12, h13, x, closed_rel hc'.1 hx, hgo⟩
    · exact ih h' hs hargs hup
/-- tables of summaries -/
theorem sums_nil : ∀ f s, (Trie.lf : Trie Sum).get f = some s → SumSound P s f := fun f s h => by rw [Trie.get_lf] at h; cases h
theorem sums_put {sums : Trie Sum} (h : ∀ f s, sums.get f = some s → SumSound P s f) {g : Pos} {s : Sum} (hs : SumSound P s g) : ∀ f s', (sums.put (some s) g).get f = some s' → SumSound P s' f := fun f s' hf => by
  rw [Trie.get_put] at hf
  split at hf
  · rename_i e; cases hf; rw [e]; exact hs
  · exact h f s' hf
end
end Go.LX

/- LX, part 50: a law's call, told by a run over variables; arguments that are whole numbers. -/
namespace Go.LX
noncomputable section
def tB (x : LV) (F : Facts) : Bool :=
  (@LV.rec (fun _ => Facts → Bool) (fun _ => Unit) (fun b _ => b) (fun _ _ _ => false) (fun _ _ _ => false) (fun _ _ _ => false) (fun _ => false) (fun _ _ _ _ _ _ => false) (fun _ => false) (fun _ _ => false) (fun _ => false) (fun _ _ _ _ => false) (fun _ _ _ _ _ _ => false) (fun _ _ => false) (fun _ => false) (fun _ _ _ _ => false) (fun _ => false) (fun _ _ _ => false) (fun _ _ _ => false) (fun _ _ => false) (fun _ _ => false) (fun _ _ _ => false) (fun e F => bb (lookB F e) fun x => x) (fun _ _ => false) () (fun _ _ _ _ => ()) x F)
/-- the call gives true -/
def isTrueK (p : Option LV) (v : LV) (H : Heap) : Bool := @Option.rec LV (fun _ => Bool) (tB v H.fs) (fun _ => false) p
/-- variables: the first names -/
def phiV (vals : List Value) : Phi := fun p => (vals[p.idx]?).map .val
end
section
variable {P : Program}
theorem phiV_get {vals : List Value} {i : Nat} {v : Value} (h : vals[i]? = some v) : phiV vals (posOf i) = some (.val v) := by simp [phiV, h]
theorem ev_var {vals : List Value} {i : Nat} {k : IntKind} {n : Int} (h : vals[i]? = some (.int k n)) : (SE.v (posOf i)).ev (phiV vals) = some n := by
  simp only [SE.ev, phiV_get h]
theorem rel_var {vals : List Value} {i : Nat} {k : IntKind} {n : Int} (h : vals[i]? = some (.int k n)) (hw : k.wrap n = n) : Rel (phiV vals) (.sint k (.v (posOf i))) (.int k n) := .sint k (ev_var h) hw
theorem sim_var {vals : List Value} {F : Facts} (hF : FactsOk (phiV vals) F) (w : World) : Sim P (phiV vals) ⟨posOf vals.length, .lf, F⟩ w :=
  ⟨fun p hp => by
    have : vals.length ≤ p.idx := by
      have h1 : (posOf vals.length).toNat ≤ p.toNat := hp
      rw [posOf_toNat] at h1
      have h2 := p.toNat_pos
      unfold Pos.idx; omega
    simp [phiV, List.getElem?_eq_none this],
   fun p o h => by (have h' : (Trie.lf : Trie LO).get p = some o := h; rw [Trie.get_lf] at h'; cases h'),
   fun p q o o' B h => by (have h' : (Trie.lf : Trie LO).get p = some o := h; rw [Trie.get_lf] at h'; cases h'), hF⟩
theorem wrap_of_wf {k : IntKind} {n : Int} (h : (Lit.int k n).wf = true) : k.wrap n = n := by
  rw [wrap_fix]
  simp only [Lit.wf, Bool.and_eq_true, decide_eq_true_eq] at h
  cases k <;> simpa [IntKind.min, IntKind.max, IntKind.signed, IntKind.bits, lowK, limK] using h
theorem calls_true (hmix : P.follows .mixedOrders = true) {sums : Trie Sum} (hsums : ∀ f s, sums.get f = some s → SumSound P s f) {n f : Nat} {args : List LV} {vs : List Value} {vals : List Value} {F : Facts} {w : World}
    (hF : FactsOk (phiV vals) F) (hr : Rels (phiV vals) args vs) (h : callTop (fnsOf P) sums n (posOf f) args ⟨posOf vals.length, .lf, F⟩ isTrueK = true) :
    Calls P f vs.toArray w fun e w' => e = .returned (.bool true) ∧ RowKit.Below w.heap.size w w' := by
  refine (calls_of_top hmix hsums (sim_var hF w) hr h).mono fun e w' ht => ?_
  cases e with
  | returned x =>
    obtain ⟨v, H', φ', hk, hst, hrel⟩ := ht
    have hk' : tB v H'.fs = true := hk
    have hb : RowKit.Below w.heap.size w w' := ⟨hst.fr.os, hst.fr.tape, hst.fr.out, hst.fr.size, fun B hB => hst.fr.keep B hB fun p o hp => by
      have hp' : (Trie.lf : Trie LO).get p = some o := hp
      rw [Trie.get_lf] at hp'; cases hp'⟩
    refine ⟨?_, hb⟩
    cases hrel with
    | bool b => have h2 : b = true := hk'; rw [h2]
    | sbool b he =>
      obtain ⟨c, hc, h2⟩ := bb_true.1 (show (bb (lookB H'.fs _) fun x => x) = true from hk')
      have := lookB_ev hst.sim.facts hc he
      rw [← this, h2]
    | _ => cases hk'
  | panicked c =>
    obtain ⟨ev, v, H', φ', x, hk, _⟩ := ht
    cases hk
  | outgrown => exact ht.elim
end
section
open Go.ChangeShapes Go.WideShapes Go.ChangeAt Go.RowKit
variable {H : Type} {enc : TypeId × Value → H} {P : Program}
/-- the row's last step, where all that was there before stays -/
theorem post_below {f : Func} {s : ChangeSpec} {apart fresh handsOn again : Bool} {W W' : World} {args : Array Value} {v : Value} {ds gs : List (DataW H)} {before pa pv : List MemPlace}
    (hW : DataW.Whole enc P f.params.toList s.vars apart W args.toList ds gs before)
    (hres : ∀ (b : Nat) (sp : Nat → Bool) (hd : Bool), DataW.TrodAll enc P W' b sp hd f.resultTypes.toList (v.resultList f.resultTypes.size) (s.fn H (ds ++ gs)).results [])
    (hargs : ∀ sp : Nat → Bool, (∀ p ∈ before, sp p.block = true) → DataW.TrodAll enc P W' 0 sp true f.params.toList args.toList (s.fn H (ds ++ gs)).args pa)
    (hvars : ∀ sp : Nat → Bool, (∀ p ∈ before, sp p.block = true) → DataW.TrodVars enc P W' sp s.vars (s.fn H (ds ++ gs)).vars pv)
    (hps : before = pa ++ pv) (hb : RowKit.Below W.heap.size W W')
    (hok : ∀ (j : Nat) (t : TypeId) (r : Value), f.resultTypes[j]? = some t → (v.resultList f.resultTypes.size)[j]? = some r → Value.okWide P W' .any 0 t r) :
    s.post enc P f apart fresh handsOn again W args v W' := by
  have hlt := fun p (hp : p ∈ before) => hW.lt p hp
  have hold : ∀ p ∈ before, (fun b => decide (b < W.heap.size)) p.block = true := fun p hp => by simpa using hlt p hp
  refine ⟨ds, gs, before, [], pa, pv, hW, hres _ _ _, hargs _ hold, hvars _ hold, World.keptBut_mono (fun p hp => ⟨hp, by rw [hps, List.mem_append] at hp; exact .inr hp⟩) (hb.frame (· ∈ before)), fun _ => ?_⟩
  obtain ⟨_, _, _, _, _, hz, hn⟩ := hW
  refine ⟨hok, _, _, ([] ++ pa) ++ pv, ⟨[] ++ pa, pv, trodAll_append (hargs _ fun _ _ => rfl) (hres _ _ _), hvars _ fun _ _ => rfl, rfl, fun b off hp => ?_, fun ha => ?_⟩, fun p hp _ => by rw [hps]; simpa using hp⟩
  · have hin : MemPlace.cell b off ∈ before := by rw [hps]; simpa using hp
    rw [hb.frozen (hlt _ hin)]
    exact hz b off hin
  · have := hn ha
    rw [hps] at this
    simpa using this
/-- a row of whole numbers, by value: it reads the same in every world -/
theorem open_row {W : World} {base : Nat} {spare : Nat → Bool} {held : Bool} {r : _root_.Go.Reach} {b0 : Nat} {t e : TypeId} {n : Nat} {q : IntKind} (ht : P.underlying t = some (.array n e)) (he : P.underlying e = some (.int q)) (h1 : P.cellsOf e = 1) (hn : P.cellsOf t = n)
    {v : Value} {d : DataW H} {ps : List MemPlace} (hv : Value.okWide P W r b0 t v) (hd : DataW.Trod enc P W base spare held t v d ps) :
    ∃ zs : List Int, zs.length = n ∧ v = .agg (zs.map (Value.int q)).toArray ∧ (∀ z ∈ zs, (Lit.int q z).wf = true) ∧ ps = [] ∧ ∀ (W' : World) (base' : Nat) (sp' : Nat → Bool) (held' : Bool), DataW.Trod enc P W' base' sp' held' t v d [] := by
  simp only [Value.okWide, ht] at hv
  obtain ⟨cs, rfl, hsz, _⟩ := hv
  rw [hn] at hsz
  obtain ⟨fuel, hf⟩ := hd
  cases fuel with
  | zero => simp [DataW.trod] at hf
  | succ m =>
    rw [DataW.trod_step] at hf
    unfold DataW.trodStep at hf
    simp only [ht, Value.cells] at hf
    rw [if_pos (by rw [hn]; simpa using hsz)] at hf
    simp only [Option.map_eq_some_iff] at hf
    obtain ⟨ys, hy, e1⟩ := hf
    have key : ∀ (L : List Nat) (ys : List (DataW H × List MemPlace)), L.mapM (fun i => DataW.trod enc P W base spare held m e ((cs.toList.drop (i * P.cellsOf e)).take (P.cellsOf e))) = some ys →
        ∃ zs : List Int, zs.length = L.length ∧ (∀ (j i : Nat) (z : Int), L[j]? = some i → zs[j]? = some z → (cs.toList.drop (i * P.cellsOf e)).take (P.cellsOf e) = [.int q z]) ∧ (∀ z ∈ zs, (Lit.int q z).wf = true) ∧ ys = zs.map (fun z => (.lit (.int q z), [])) ∧
          ∀ (W' : World) (base' : Nat) (sp' : Nat → Bool) (held' : Bool), L.mapM (fun i => DataW.trod enc P W' base' sp' held' 1 e ((cs.toList.drop (i * P.cellsOf e)).take (P.cellsOf e))) = some ys := by
      intro L
      induction L with
      | nil => intro ys h; simp at h; subst h; exact ⟨[], rfl, fun _ _ _ h => by simp at h, fun _ h => by simp at h, rfl, fun _ _ _ _ => rfl⟩
      | cons i L ih =>
        intro ys h
        rw [List.mapM_cons] at h
        simp only [bind, Option.bind_eq_some_iff, pure, Option.some.injEq] at h
        obtain ⟨y, hy, ys', hys, rfl⟩ := h
        obtain ⟨zs, h2, h3, h4, rfl, h5⟩ := ih ys' hys
        obtain ⟨a, ea, rfl, wa⟩ := DataW.trod_int he hy
        refine ⟨a :: zs, by simp [h2], fun j i' z hj hz => ?_, fun z hz => ?_, rfl, fun W' base' sp' held' => ?_⟩
        · cases j with
          | zero => simp at hj hz; subst hj; subst hz; exact ea
          | succ j => exact h3 j i' z (by simpa using hj) (by simpa using hz)
        · rcases List.mem_cons.1 hz with rfl | hz
          · exact wa
          · exact h4 z hz
        · rw [List.mapM_cons, h5, ea, trod_int_mk 0 he wa]; rfl
    obtain ⟨zs, h2, h3, h4, rfl, h5⟩ := key _ _ hy
    simp only [Prod.mk.injEq] at e1
    have hzl : zs.length = n := by simpa using h2
    have hcs : cs = (zs.map (Value.int q)).toArray := by
      apply Array.ext'
      apply List.ext_getElem?
      intro i
      rcases Nat.lt_or_ge i n with hi | hi
      · have hz : zs[i]? = some (zs[i]'(by omega)) := List.getElem?_eq_getElem _
        have := h3 i i _ (by rw [List.getElem?_range hi]) hz
        rw [h1, Nat.mul_one] at this
        have hg : cs.toList[i]? = some (.int q (zs[i]'(by omega))) := by
          have e2 : (cs.toList.drop i)[0]? = some (.int q (zs[i]'(by omega))) := by
            have : ((cs.toList.drop i).take 1)[0]? = some (.int q (zs[i]'(by omega))) := by rw [this]; rfl
            rw [List.getElem?_take] at this
            simpa using this
          simpa using e2
        rw [hg]; simp [hz]
      · rw [List.getElem?_eq_none (by simp; omega), List.getElem?_eq_none (by simp; omega)]
    refine ⟨zs, hzl, by rw [hcs], h4, by rw [← e1.2]; simp, fun W' base' sp' held' => ⟨2, ?_⟩⟩
    rw [DataW.trod_step]
    unfold DataW.trodStep
    simp only [ht, Value.cells]
    rw [if_pos (by rw [hn]; simpa using hsz), h5]
    simp only [Option.map_some]
    rw [← e1.1]
    simp
end
end Go.LX

