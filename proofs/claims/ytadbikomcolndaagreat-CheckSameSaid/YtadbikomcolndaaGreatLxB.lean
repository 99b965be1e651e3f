/- The executor is sound, second part: operations that change memory, maps, calls. No condition. -/
import Derived.Test.YtadbikomcolndaaGreatLxA
import Derived.Laws.IdiomRangeMap
import Derived.Laws.IdiomStrings
import Derived.Laws.MakeOwn
set_option linter.unusedVariables false

/- LX, part 6b: numbers that are told by variables. -/
namespace Go.LX
section
variable {P : Program} {φ : Phi} {w : World}

theorem opNo_inj {a b : BinOp} (h : opNo a = opNo b) : a = b := by cases a <;> cases b <;> first | rfl | (exact absurd h (by decide))
theorem unNo_inj {a b : UnOp} (h : unNo a = unNo b) : a = b := by cases a <;> cases b <;> first | rfl | (exact absurd h (by decide))
theorem posEq_eq {p q : Pos} (h : posEq p q = true) : p = q := Pos.toNat_inj (beq_iff.1 h)
theorem seEq_eq : ∀ {a b : SE}, seEq a b = true → a = b
  | .c n, b, h => by
    cases b with
    | c m => have h' : intEq n m = true := h; rw [intEq_eq] at h'; rw [beq_iff_eq.1 h']
    | _ => cases h
  | .v p, b, h => by
    cases b with
    | v q => have h' : posEq p q = true := h; rw [posEq_eq h']
    | _ => cases h
  | .op o k x y, b, h => by
    cases b with
    | op o' k' x' y' =>
      have h' : ib (Nat.beq (opNo o) (opNo o')) (ib (kindEq k k') (ib (seEq x x') (seEq y y') false) false) false = true := h
      simp only [ib_ff] at h'
      obtain ⟨h1, h2, h3, h4⟩ := h'
      rw [opNo_inj (beq_iff.1 h1), kindEq_iff.1 h2, seEq_eq h3, seEq_eq h4]
    | _ => cases h
  | .nt x, b, h => by
    cases b with
    | nt y => have h' : seEq x y = true := h; rw [seEq_eq h']
    | _ => cases h
  | .cv k x, b, h => by
    cases b with
    | cv k' y =>
      have h' : ib (kindEq k k') (seEq x y) false = true := h
      simp only [ib_ff] at h'
      rw [kindEq_iff.1 h'.1, seEq_eq h'.2]
    | _ => cases h
  | .un o k x, b, h => by
    cases b with
    | un o' k' y =>
      have h' : ib (Nat.beq (unNo o) (unNo o')) (ib (kindEq k k') (seEq x y) false) false = true := h
      simp only [ib_ff] at h'
      rw [unNo_inj (beq_iff.1 h'.1), kindEq_iff.1 h'.2.1, seEq_eq h'.2.2]
    | _ => cases h
theorem seC_some {e : SE} {n : Int} (h : seC e = some n) : e = .c n := by cases e <;> first | (cases h; rfl) | cases h
theorem lookF_mem {e e' : SE} : ∀ {F : Facts}, lookF F e = some e' → (e, e') ∈ F
  | [], h => by cases h
  | x :: F, h => by
    have h' : ib (seEq x.1 e) (some x.2) (lookF F e) = some e' := h
    rw [ib_eq] at h'
    split at h'
    · rename_i hx; cases h'; rw [← seEq_eq hx]; exact List.mem_cons_self ..
    · exact List.mem_cons_of_mem _ (lookF_mem h')
theorem look_ev {F : Facts} (hF : FactsOk φ F) {e e' : SE} {n : Int} (h : lookF F e = some e') (hn : e.ev φ = some n) : e'.ev φ = some n := by
  obtain ⟨m, h1, h2⟩ := hF _ (lookF_mem h)
  rw [hn] at h1; cases h1; exact h2

noncomputable def lowK (k : IntKind) : Int := if k.signed then - (limK k : Int) - 1 else 0
theorem wrap_fix {k : IntKind} {n : Int} : k.wrap n = n ↔ lowK k ≤ n ∧ n ≤ (limK k : Int) := by
  cases k <;> simp only [lowK, limK, IntKind.wrap, IntKind.bits, IntKind.signed] <;> simp only [Bool.true_and, Bool.false_and, Bool.false_eq_true, if_false, if_true, Nat.reduceSub, Int.reducePow] <;> first | omega | (split <;> simp_all <;> omega)
theorem lowI_eq (k : IntKind) : lowI k = lowK k := by cases k <;> rfl
theorem inK_wrap {k : IntKind} {n : Int} (h : inK k n = true) : k.wrap n = n := by
  unfold inK at h
  rw [ib_ff, intLe_eq, intLe_eq, lowI_eq] at h
  exact wrap_fix.2 ⟨of_decide_eq_true h.1, of_decide_eq_true h.2⟩
theorem wrap_in (k : IntKind) (n : Int) : lowK k ≤ k.wrap n ∧ k.wrap n ≤ (limK k : Int) := by
  cases k <;> simp only [lowK, limK, IntKind.wrap, IntKind.bits, IntKind.signed] <;> simp only [Bool.true_and, Bool.false_and, Bool.false_eq_true, if_false, if_true, Nat.reduceSub, Int.reducePow] <;> first | omega | (split <;> simp_all <;> omega)
theorem wrap_wrap (k : IntKind) (n : Int) : k.wrap (k.wrap n) = k.wrap n := wrap_fix.2 (wrap_in k n)
theorem lowK_le (k : IntKind) : lowK k ≤ 0 := by cases k <;> decide
theorem limK_ge (k : IntKind) : 0 ≤ (limK k : Int) := by omega
theorem kSub_wrap {j k : IntKind} (h : kSub j k = true) {n : Int} (hn : j.wrap n = n) : k.wrap n = n := by
  rw [wrap_fix] at hn ⊢
  cases j <;> cases k <;> first | (exact absurd h (by decide)) | (simp only [lowK, limK, IntKind.signed, if_true, Bool.false_eq_true, if_false] at hn ⊢; omega)
theorem tmod_in {k : IntKind} {x y : Int} (hx : k.wrap x = x) : k.wrap (x.tmod y) = x.tmod y := by
  rw [wrap_fix] at hx ⊢
  have hl := lowK_le k
  have h1 : (x.tmod y).natAbs ≤ x.natAbs := by rw [Int.natAbs_tmod]; exact Nat.mod_le _ _
  rcases Int.le_total 0 x with h0 | h0
  · have := Int.tmod_nonneg y h0
    omega
  · have : x.tmod y ≤ 0 := by
      have := Int.tmod_nonneg y (show 0 ≤ -x by omega)
      rw [Int.neg_tmod] at this; omega
    omega
theorem fdiv_in {k : IntKind} {x : Int} (n : Nat) (hx : k.wrap x = x) : k.wrap (x.fdiv (2 ^ n)) = x.fdiv (2 ^ n) := by
  rw [wrap_fix] at hx ⊢
  have hl := lowK_le k
  have hp : (0 : Int) < 2 ^ n := Int.pow_pos (by decide)
  have e : x.fdiv (2 ^ n) = x / (2 ^ n) := Int.fdiv_eq_ediv_of_nonneg _ (Int.le_of_lt hp)
  rw [e]
  have hq : (1 : Int) ≤ 2 ^ n := hp
  constructor
  · rcases Int.le_total 0 x with h0 | h0
    · have := Int.ediv_nonneg h0 (Int.le_of_lt hp); omega
    · have : x ≤ x / 2 ^ n := by
        rw [Int.le_ediv_iff_mul_le hp]
        have := Int.mul_le_mul_of_nonpos_left h0 hq
        omega
      omega
  · rcases Int.le_total 0 x with h0 | h0
    · have := Int.ediv_le_self (2 ^ n) h0; omega
    · have : x / 2 ^ n ≤ 0 := by
        have := Int.ediv_le_ediv hp h0
        simpa using this
      omega
theorem rel_mkI {k : IntKind} {e : SE} {n : Int} (h : e.ev φ = some n) (h1 : k.wrap n = n) : Rel φ (mkI k e) (.int k n) := by
  unfold mkI
  cases hc : seC e with
  | none => exact .sint k h h1
  | some m => have := seC_some hc; subst this; cases h; exact .int k n
theorem rel_mkB {e : SE} {b : Bool} (h : e.ev φ = some (if b then 1 else 0)) : Rel φ (mkB e) (.bool b) := by
  unfold mkB
  cases hc : seC e with
  | none => exact .sbool b h
  | some m =>
    have := seC_some hc
    subst this
    simp only [SE.ev, Option.some.injEq] at h
    subst h
    cases b <;> exact .bool _
theorem b01 (b : Bool) : (if (!b) = true then (1 : Int) else 0) = if (if b then (1 : Int) else 0) = 0 then 1 else 0 := by cases b <;> rfl
theorem ev_ntSE {e : SE} {b : Bool} (h : e.ev φ = some (if b then 1 else 0)) : (ntSE e).ev φ = some (if !b then 1 else 0) := by
  have gen : (SE.nt e).ev φ = some (if !b then 1 else 0) := by
    simp only [SE.ev, h]; cases b <;> rfl
  cases e with
  | c n =>
    simp only [SE.ev, Option.some.injEq] at h
    subst h
    cases b <;> rfl
  | nt a =>
    show a.ev φ = _
    simp only [SE.ev, Option.bind_eq_some_iff] at h
    obtain ⟨x, hx, he⟩ := h
    rw [hx]
    split at he
    · rename_i h0; subst h0; cases b <;> simp_all
    · split at he
      · rename_i h1; subst h1; cases b <;> simp_all
      · cases he
  | _ => exact gen
theorem ev_eqSE {k : IntKind} {a b : SE} {x y : Int} (ha : a.ev φ = some x) (hb : b.ev φ = some y) : (eqSE k a b).ev φ = some (if decide (x = y) = true then 1 else 0) := by
  unfold eqSE
  rw [ib_eq]
  split
  · rename_i h
    have := seEq_eq h
    subst this
    rw [ha] at hb; cases hb
    simp [SE.ev]
  · cases hca : seC a with
    | none =>
      show (SE.op .eql k a b).ev φ = _
      simp only [SE.ev, ha, hb, Option.bind_some, opI, decide_eq_true_eq]
    | some n =>
      have e1 := seC_some hca
      subst e1
      have ha' : n = x := by simpa [SE.ev] using ha
      subst ha'
      cases hcb : seC b with
      | none =>
        show (SE.op .eql k b (.c n)).ev φ = _
        have hs : (y = n) = (n = y) := propext ⟨Eq.symm, Eq.symm⟩
        simp only [SE.ev, hb, Option.bind_some, opI, decide_eq_true_eq, hs]
      | some m =>
        have e2 := seC_some hcb
        subst e2
        have hb' : m = y := by simpa [SE.ev] using hb
        subst hb'
        show (SE.c (ib (intEq n m) 1 0)).ev φ = _
        rw [intEq_eq, ib_eq]
        simp only [SE.ev, beq_iff_eq, decide_eq_true_eq]
theorem ev_ltSE {k : IntKind} {a b : SE} {x y : Int} (ha : a.ev φ = some x) (hb : b.ev φ = some y) : (ltSE k a b).ev φ = some (if decide (x < y) = true then 1 else 0) := by
  unfold ltSE
  rw [ib_eq]
  split
  · rename_i h
    have := seEq_eq h
    subst this
    rw [ha] at hb; cases hb
    simp [SE.ev]
  · simp only [SE.ev, ha, hb, Option.bind_some, opI, decide_eq_true_eq]
theorem nz_of {F : Facts} (hF : FactsOk φ F) {k : IntKind} {b : SE} {y : Int} (h : nzF F k b = true) (hb : b.ev φ = some y) : y ≠ 0 := by
  unfold nzF at h
  cases hc : seC b with
  | some n =>
    rw [hc] at h
    have h' : bnot (intEq n 0) = true := h
    have := seC_some hc
    subst this
    cases hb
    rw [bnot_eq, intEq_eq] at h'
    simpa using h'
  | none =>
    rw [hc] at h
    obtain ⟨x, hx, h1⟩ := bb_true.1 (show (bb (lookF F (.op .eql k b (.c 0))) fun x => bb (seC x) fun n => intEq n 0) = true from h)
    obtain ⟨n, hn, h2⟩ := bb_true.1 h1
    have := seC_some hn
    subst this
    rw [intEq_eq] at h2
    have h0 : n = 0 := beq_iff_eq.1 h2
    subst h0
    have hev : (SE.op .eql k b (.c 0)).ev φ = some (if y = 0 then 1 else 0) := by simp only [SE.ev, hb, Option.bind_some, opI]
    have := look_ev hF hx hev
    simp only [SE.ev, Option.some.injEq] at this
    intro e
    rw [if_pos e] at this
    cases this
theorem nn_of {j : IntKind} {b : SE} {y : Int} (h : nnS j b = true) (hb : b.ev φ = some y) (hr : seC b = none → j.wrap y = y) : 0 ≤ y := by
  unfold nnS at h
  cases hc : seC b with
  | some n =>
    rw [hc] at h
    have h' : intLe 0 n = true := h
    have := seC_some hc
    subst this
    cases hb
    rw [intLe_eq] at h'
    simpa using h'
  | none =>
    rw [hc] at h
    have h' : bnot (isSgn j) = true := h
    replace hr := hr hc
    rw [wrap_fix] at hr
    cases j <;> first | (exact absurd h' (by decide)) | exact hr.1
theorem bits_back (k : IntKind) (r : BitVec k.bits) {P : Program} {w : World} : (pure (Value.int k (k.wrap r.toNat)) : Sem Value).run P w = .ok (.int k (k.wrap r.toNat)) w := rfl
theorem gives_symBin {F : Facts} (hF : FactsOk φ F) {op : BinOp} {t : TypeId} {j k : IntKind} {a b : SE} {x y : Int} {r : LV} (ha : a.ev φ = some x) (hb : b.ev φ = some y) (hx : k.wrap x = x) (hy : seC b = none → j.wrap y = y)
    (h : symBin F op k a j b = some r) : ∃ v, (binOp op t (.int k x) (.int j y)).run P w = .ok v w ∧ Rel φ r v := by
  have ari : ∀ {o : BinOp} {z : Int}, opI o k x y = some z → (SE.op o k a b).ev φ = some z := fun {o z} h => by simp only [SE.ev, ha, hb, Option.bind_some, h]
  cases op
  case add => obtain ⟨rfl, h⟩ := kq_some (x := some _) h; cases h; rw [binOp_add]; exact ⟨_, rfl, .sint _ (ari rfl) (wrap_wrap _ _)⟩
  case sub => obtain ⟨rfl, h⟩ := kq_some (x := some _) h; cases h; rw [binOp_sub]; exact ⟨_, rfl, .sint _ (ari rfl) (wrap_wrap _ _)⟩
  case mul => obtain ⟨rfl, h⟩ := kq_some (x := some _) h; cases h; rw [binOp_mul]; exact ⟨_, rfl, .sint _ (ari rfl) (wrap_wrap _ _)⟩
  case quo =>
    obtain ⟨rfl, h⟩ := kq_some (x := ib _ (some _) none) h
    obtain ⟨h1, h2⟩ := ib_some.1 h
    cases h2
    have hz := nz_of hF h1 hb
    rw [binOp_quo]; simp only [Op.intDiv, if_neg hz]
    exact ⟨_, rfl, .sint _ (ari (by simp only [opI, if_neg hz])) (wrap_wrap _ _)⟩
  case rem =>
    obtain ⟨rfl, h⟩ := kq_some (x := ib _ (some _) none) h
    obtain ⟨h1, h2⟩ := ib_some.1 h
    cases h2
    have hz := nz_of hF h1 hb
    rw [binOp_rem]; simp only [Op.intDiv, if_neg hz]
    exact ⟨_, rfl, .sint _ (ari (by simp only [opI, if_neg hz])) (tmod_in hx)⟩
  case and => obtain ⟨rfl, h⟩ := kq_some (x := some _) h; cases h; rw [binOp_and]; exact ⟨_, rfl, .sint _ (ari rfl) (wrap_wrap _ _)⟩
  case or => obtain ⟨rfl, h⟩ := kq_some (x := some _) h; cases h; rw [binOp_or]; exact ⟨_, rfl, .sint _ (ari rfl) (wrap_wrap _ _)⟩
  case xor => obtain ⟨rfl, h⟩ := kq_some (x := some _) h; cases h; rw [binOp_xor]; exact ⟨_, rfl, .sint _ (ari rfl) (wrap_wrap _ _)⟩
  case shl =>
    obtain ⟨h1, h2⟩ := ib_some.1 (show ib (nnS j b) (some _) none = some r from h)
    cases h2
    have hz := nn_of h1 hb hy
    rw [binOp_shl]; simp only [Op.shift]; rw [if_neg (by omega)]
    exact ⟨_, rfl, .sint _ (ari (by simp only [opI]; rw [if_neg (by omega)])) (wrap_wrap _ _)⟩
  case shr =>
    obtain ⟨h1, h2⟩ := ib_some.1 (show ib (nnS j b) (some _) none = some r from h)
    cases h2
    have hz := nn_of h1 hb hy
    rw [binOp_shr]; simp only [Op.shift]; rw [if_neg (by omega)]
    exact ⟨_, rfl, .sint _ (ari (by simp only [opI]; rw [if_neg (by omega)])) (fdiv_in _ hx)⟩
  case andNot => cases h
  case eql => obtain ⟨rfl, h2⟩ := kq_some (x := some _) h; cases h2; rw [binOp_eql]; exact ⟨_, rfl, rel_mkB (by rw [ev_eqSE ha hb]; simp)⟩
  case neq => obtain ⟨rfl, h2⟩ := kq_some (x := some _) h; cases h2; rw [binOp_neq]; exact ⟨_, rfl, rel_mkB (by have := ev_ntSE (ev_eqSE (k := j) ha hb); rw [this]; simp [bne])⟩
  case lss => obtain ⟨rfl, h2⟩ := kq_some (x := some _) h; cases h2; rw [binOp_lss]; exact ⟨_, rfl, rel_mkB (ev_ltSE ha hb)⟩
  case leq => obtain ⟨rfl, h2⟩ := kq_some (x := some _) h; cases h2; rw [binOp_leq]; exact ⟨_, rfl, rel_mkB (by have := ev_ntSE (ev_ltSE (k := j) hb ha); rw [this]; simp)⟩
  case gtr => obtain ⟨rfl, h2⟩ := kq_some (x := some _) h; cases h2; rw [binOp_gtr]; exact ⟨_, rfl, rel_mkB (ev_ltSE hb ha)⟩
  case geq => obtain ⟨rfl, h2⟩ := kq_some (x := some _) h; cases h2; rw [binOp_geq]; exact ⟨_, rfl, rel_mkB (by have := ev_ntSE (ev_ltSE (k := j) ha hb); rw [this]; simp)⟩
/-! what is known of a value -/
theorem b01_inj {b c : Bool} (h : (if b = true then (1 : Int) else 0) = if c = true then 1 else 0) : b = c := by cases b <;> cases c <;> simp_all
theorem lookB_plain {F : Facts} (hF : FactsOk φ F) {e : SE} {b c : Bool} (h : (ob (lookF F e) fun x => ob (seC x) fun n => some (bnot (intEq n 0))) = some b) (he : e.ev φ = some (if c then 1 else 0)) : b = c := by
  obtain ⟨x, hx, h1⟩ := ob_some.1 h
  obtain ⟨n, hn, h2⟩ := ob_some.1 h1
  have := seC_some hn
  subst this
  cases h2
  have := look_ev hF hx he
  simp only [SE.ev, Option.some.injEq] at this
  subst this
  rw [bnot_eq, intEq_eq]
  cases c <;> rfl
theorem lookB_ev {F : Facts} (hF : FactsOk φ F) : ∀ {e : SE} {b c : Bool}, lookB F e = some b → e.ev φ = some (if c then 1 else 0) → b = c
  | .c n, b, c, h, he => by
    have h' : some (bnot (intEq n 0)) = some b := h
    cases h'
    simp only [SE.ev, Option.some.injEq] at he
    subst he
    rw [bnot_eq, intEq_eq]
    cases c <;> rfl
  | .nt a, b, c, h, he => by
    obtain ⟨x, hx, h1⟩ := ob_some.1 (show (ob (lookB F a) fun x => some (bnot x)) = some b from h)
    cases h1
    have ha : a.ev φ = some (if !c then 1 else 0) := by
      have := ev_ntSE he
      exact this
    have := lookB_ev hF hx ha
    rw [this]; cases c <;> rfl
  | .v p, b, c, h, he => lookB_plain hF h he
  | .op o k x y, b, c, h, he => lookB_plain hF h he
  | .cv k a, b, c, h, he => lookB_plain hF h he
  | .un o k a, b, c, h, he => lookB_plain hF h he
theorem norm_rel {F : Facts} (hF : FactsOk φ F) {x : LV} {v : Value} (h : Rel φ x v) : Rel φ (norm x F x) v := by
  cases h with
  | sint k he h1 =>
    rename_i e n
    show Rel φ (hitI k (.sint k e) (lookF F e)) (.int k n)
    cases hl : lookF F e with
    | none => exact .sint k he h1
    | some e' => exact rel_mkI (look_ev hF hl he) h1
  | sbool b he =>
    rename_i e
    show Rel φ (@Option.rec Bool (fun _ => LV) (.sbool e) (fun b => .bool b) (lookB F e)) (.bool b)
    cases hl : lookB F e with
    | none => exact .sbool b he
    | some c => have := lookB_ev hF hl he; subst this; exact .bool _
  | bool b => exact .bool b
  | int k n => exact .int k n
  | str l n h => exact .str l n h
  | ptr o h => exact .ptr o h
  | nilptr => exact .nilptr
  | slice a b c d e f h h1 h2 h3 h4 h5 => exact .slice a b c d e f h h1 h2 h3 h4 h5
  | nilslice => exact .nilslice
  | map h => exact .map h
  | nilmap => exact .nilmap
  | func f h => exact .func f h
  | mfunc f h h' => exact .mfunc f h h'
  | yld h => exact .yld h
  | nilfunc => exact .nilfunc
  | iface t h => exact .iface t h
  | niliface => exact .niliface
  | agg h => exact .agg h
  | tup h => exact .tup h
  | itr h => exact .itr h
  | opq h h1 => exact .opq h h1
  | sstr h => exact .sstr h
theorem asm_ok : ∀ {e : SE} {b : Bool}, e.ev φ = some (if b then 1 else 0) → FactsOk φ [asmF e b]
  | .c n, b, h => fun x hx => by rw [List.mem_singleton.1 hx]; exact ⟨_, h, by cases b <;> rfl⟩
  | .nt a, b, h => asm_ok (e := a) (by
      have h' := ev_ntSE h
      rw [bnot_eq]; exact h')
  | .v p, b, h => fun x hx => by rw [List.mem_singleton.1 hx]; exact ⟨_, h, by cases b <;> rfl⟩
  | .op o k x y, b, h => fun z hz => by rw [List.mem_singleton.1 hz]; exact ⟨_, h, by cases b <;> rfl⟩
  | .cv k a, b, h => fun x hx => by rw [List.mem_singleton.1 hx]; exact ⟨_, h, by cases b <;> rfl⟩
  | .un o k a, b, h => fun x hx => by rw [List.mem_singleton.1 hx]; exact ⟨_, h, by cases b <;> rfl⟩
theorem Sim.asmB {H : Heap} (h : Sim P φ H w) {e : SE} {b : Bool} (he : e.ev φ = some (if b then 1 else 0)) : Sim P φ (H.asm e b) w :=
  h.asm fun x hx => by
    rcases List.mem_cons.1 hx with e1 | e1
    · exact asm_ok he x (by rw [e1]; exact List.mem_cons_self ..)
    · exact h.facts x e1
/-- one of the two ways -/
theorem split_way {H : Heap} (h : Sim P φ H w) {e : SE} {b : Bool} (he : e.ev φ = some (if b then 1 else 0)) {f g : Heap → Bool} (hs : splitH e H f g = true) :
    ∃ F, Sim P φ ⟨H.next, H.t, F⟩ w ∧ (if b then f else g) ⟨H.next, H.t, F⟩ = true := by
  unfold splitH at hs
  cases hl : lookB H.fs e with
  | none =>
    rw [hl] at hs
    obtain ⟨h1, h2⟩ := ib_ff.1 (show ib (f (H.asm e true)) (g (H.asm e false)) false = true from hs)
    cases b with
    | true => exact ⟨_, h.asmB he, h1⟩
    | false => exact ⟨_, h.asmB he, h2⟩
  | some c =>
    rw [hl] at hs
    have := lookB_ev h.facts hl he
    subst this
    have hs' : ib c (f H) (g H) = true := hs
    refine ⟨H.fs, h, ?_⟩
    cases c <;> exact hs'
/-! truths -/
theorem boolSE_some {x : LV} {e : SE} {v : Value} (hx : Rel φ x v) (h : boolSE x = some e) : ∃ b : Bool, v = .bool b ∧ e.ev φ = some (if b then 1 else 0) := by
  cases hx with
  | bool b => have h' : some (SE.c (ib b 1 0)) = some e := h; cases h'; exact ⟨b, rfl, by cases b <;> rfl⟩
  | sbool b he => cases h; exact ⟨b, rfl, he⟩
  | _ => cases h
theorem rel_sbool {e : SE} {v : Value} (h : Rel φ (.sbool e) v) : ∃ b, v = .bool b ∧ e.ev φ = some (if b then 1 else 0) := by cases h with | sbool b he => exact ⟨b, rfl, he⟩
theorem ev_eqTSE {a b : SE} {p q : Bool} (ha : a.ev φ = some (if p then 1 else 0)) (hb : b.ev φ = some (if q then 1 else 0)) : (eqTSE a b).ev φ = some (if (p == q) then 1 else 0) := by
  unfold eqTSE
  cases hca : seC a with
  | some n =>
    have e1 := seC_some hca
    subst e1
    have hn : n = if p then 1 else 0 := by simpa [SE.ev] using ha
    show (ib (intEq n 0) (ntSE b) b).ev φ = _
    rw [hn, intEq_eq]
    cases p with
    | true => simpa using hb
    | false => simpa using ev_ntSE hb
  | none =>
    cases hcb : seC b with
    | some m =>
      have e2 := seC_some hcb
      subst e2
      have hm : m = if q then 1 else 0 := by simpa [SE.ev] using hb
      show (ib (intEq m 0) (ntSE a) a).ev φ = _
      rw [hm, intEq_eq]
      cases q with
      | true => simpa using ha
      | false => simpa using ev_ntSE ha
    | none =>
      show (ib (seEq a b) (SE.c 1) (SE.op .eql .i64 a b)).ev φ = _
      rw [ib_eq]
      split
      · rename_i h
        have := seEq_eq h
        subst this
        rw [ha] at hb
        have := b01_inj (Option.some.inj hb)
        subst this
        simp [SE.ev]
      · simp only [SE.ev, ha, hb, Option.bind_some, opI]
        cases p <;> cases q <;> simp
theorem eqBLV_rel (neg : Bool) {a b : SE} {p q : Bool} (ha : a.ev φ = some (if p then 1 else 0)) (hb : b.ev φ = some (if q then 1 else 0)) : Rel φ (eqBLV neg a b) (.bool (bxor neg (bnot (bxor p q)))) := by
  unfold eqBLV
  refine rel_mkB ?_
  have h := ev_eqTSE ha hb
  cases neg with
  | true => rw [ib_true]; have := ev_ntSE h; rw [this]; cases p <;> cases q <;> rfl
  | false => rw [ib_false, h]; cases p <;> cases q <;> rfl
theorem pureN_some {o : POp} {T : Trie LV} {H : Heap} {v : LV} (h : pureN o T H = some v) : ∃ v0, pureOp H.fs o T H = some v0 ∧ v = norm v0 H.fs v0 := by
  obtain ⟨v0, h1, h2⟩ := ob_some.1 h
  cases h2; exact ⟨v0, h1, rfl⟩
end
end Go.LX

/- LX, part 7: strings, slices, comparisons, maps that are read. -/
namespace Go.LX

/-! ### the order of strings -/
theorem byteNum_acc : ∀ (bs : List UInt8) (acc : Nat), byteNum bs acc = acc * 256 ^ bs.length + byteNum bs 0
  | [], acc => by simp [byteNum]
  | b :: bs, acc => by
    simp only [byteNum, List.length_cons]
    rw [byteNum_acc bs (acc * 256 + b.toNat), byteNum_acc bs (0 * 256 + b.toNat), Nat.pow_succ, Nat.add_mul, Nat.add_mul]
    simp only [Nat.zero_mul, Nat.zero_add]
    rw [Nat.mul_assoc, Nat.mul_comm 256]
    omega
theorem byteNum_cons (b : UInt8) (bs : List UInt8) : byteNum (b :: bs) 0 = b.toNat * 256 ^ bs.length + byteNum bs 0 := by
  show byteNum bs (0 * 256 + b.toNat) = _
  rw [byteNum_acc]; simp
theorem byteNum_lt' (bs : List UInt8) : byteNum bs 0 < 256 ^ bs.length := by simpa using byteNum_lt bs 0
theorem less_le : ∀ (x y : List UInt8) (d : Nat), y.length = x.length + d → (Op.bytesLess x y = true ↔ byteNum x 0 * 256 ^ d < byteNum y 0 ∨ (byteNum x 0 * 256 ^ d = byteNum y 0 ∧ 0 < d))
  | [], [], d, h => by simp at h; subst h; simp [Op.bytesLess]
  | [], b :: y, d, h => by
    simp only [Op.bytesLess, byteNum, Nat.zero_mul, true_iff]
    have : 0 < d := by simp at h; omega
    omega
  | a :: x, [], d, h => by exfalso; simp at h; omega
  | a :: x, b :: y, d, h => by
    have hl : y.length = x.length + d := by simp at h; omega
    have ih := less_le x y d hl
    have hx := byteNum_lt' x
    have hy := byteNum_lt' y
    have hp : 256 ^ y.length = 256 ^ x.length * 256 ^ d := by rw [hl, Nat.pow_add]
    have hx2 : byteNum x 0 * 256 ^ d < 256 ^ y.length := by rw [hp]; exact Nat.mul_lt_mul_of_pos_right hx (Nat.pow_pos (by decide))
    rw [byteNum_cons, byteNum_cons, Nat.add_mul, Nat.mul_assoc, ← hp]
    simp only [Op.bytesLess, Bool.or_eq_true, decide_eq_true_eq, Bool.and_eq_true, beq_iff_eq, UInt8.lt_iff_toNat_lt, ← UInt8.toNat_inj]
    generalize 256 ^ y.length = Y at *
    generalize byteNum x 0 * 256 ^ d = X at *
    generalize byteNum y 0 = Z at *
    generalize a.toNat = A at *
    generalize b.toNat = B at *
    rcases Nat.lt_trichotomy A B with h1 | h1 | h1
    · have : A * Y + Y ≤ B * Y := by rw [← Nat.succ_mul]; exact Nat.mul_le_mul_right _ h1
      constructor
      · intro _; omega
      · intro _; exact .inl h1
    · subst h1
      rw [ih]; omega
    · have : B * Y + Y ≤ A * Y := by rw [← Nat.succ_mul]; exact Nat.mul_le_mul_right _ h1
      constructor
      · intro h2; omega
      · intro h2; omega
theorem less_gt : ∀ (x y : List UInt8) (d : Nat), x.length = y.length + d → (Op.bytesLess x y = true ↔ byteNum x 0 < byteNum y 0 * 256 ^ d)
  | x, [], d, h => by cases x <;> simp [Op.bytesLess, byteNum]
  | [], b :: y, d, h => by exfalso; simp at h; omega
  | a :: x, b :: y, d, h => by
    have hl : x.length = y.length + d := by simp at h; omega
    have ih := less_gt x y d hl
    have hx := byteNum_lt' x
    have hy := byteNum_lt' y
    have hp : 256 ^ x.length = 256 ^ y.length * 256 ^ d := by rw [hl, Nat.pow_add]
    have hy2 : byteNum y 0 * 256 ^ d < 256 ^ x.length := by rw [hp]; exact Nat.mul_lt_mul_of_pos_right hy (Nat.pow_pos (by decide))
    rw [byteNum_cons, byteNum_cons, Nat.add_mul, Nat.mul_assoc, ← hp]
    simp only [Op.bytesLess, Bool.or_eq_true, decide_eq_true_eq, Bool.and_eq_true, beq_iff_eq, UInt8.lt_iff_toNat_lt, ← UInt8.toNat_inj]
    generalize 256 ^ x.length = Y at *
    generalize byteNum y 0 * 256 ^ d = X at *
    generalize byteNum x 0 = Z at *
    generalize a.toNat = A at *
    generalize b.toNat = B at *
    rcases Nat.lt_trichotomy A B with h1 | h1 | h1
    · have : A * Y + Y ≤ B * Y := by rw [← Nat.succ_mul]; exact Nat.mul_le_mul_right _ h1
      constructor
      · intro _; omega
      · intro _; exact .inl h1
    · subst h1
      rw [ih]; omega
    · have : B * Y + Y ≤ A * Y := by rw [← Nat.succ_mul]; exact Nat.mul_le_mul_right _ h1
      constructor
      · intro h2; omega
      · intro h2; omega
theorem shl8 (n k : Nat) : Nat.shiftLeft n (Nat.mul 8 k) = n * 256 ^ k := by
  show n <<< (8 * k) = _
  rw [Nat.shiftLeft_eq, pow8]
theorem strLt_eq {l m a b : Nat} (ha : a < 256 ^ l) (hb : b < 256 ^ m) : strLt l a m b = Op.bytesLess (bytesL l a) (bytesL m b) := by
  rw [Bool.eq_iff_iff]
  unfold strLt
  rw [ib_eq]
  by_cases h : l ≤ m
  · rw [if_pos (ble_iff.2 h), less_le (bytesL l a) (bytesL m b) (m - l) (by simp; omega), byteNum_bytesL l a ha, byteNum_bytesL m b hb, ib_eq]
    have e : Nat.sub m l = m - l := rfl
    rw [e, shl8]
    by_cases h1 : a * 256 ^ (m - l) < b
    · rw [if_pos (ble_iff.2 h1)]; simp [h1]
    · rw [if_neg (fun e => h1 (ble_iff.1 e)), ib_eq]
      by_cases h2 : a * 256 ^ (m - l) = b
      · rw [if_pos (beq_iff.2 h2), ble_iff]; omega
      · rw [if_neg (fun e => h2 (beq_iff.1 e))]; simp; omega
  · rw [if_neg (fun e => h (ble_iff.1 e)), less_gt (bytesL l a) (bytesL m b) (l - m) (by simp; omega), byteNum_bytesL l a ha, byteNum_bytesL m b hb, ble_iff]
    have e : Nat.sub l m = l - m := rfl
    rw [e, shl8]; exact Iff.rfl
theorem strEq_eq {l m a b : Nat} (ha : a < 256 ^ l) (hb : b < 256 ^ m) : strEq l a m b = (bytesL l a == bytesL m b) := by
  rw [Bool.eq_iff_iff, beq_iff_eq, bytesL_inj ha hb]
  unfold strEq
  rw [ib_ff, beq_iff, beq_iff]
theorem bytesOf_toList (l n : Nat) : (bytesOf l n).toList = bytesL l n := by rw [ByteArray.toList_eq]; simp [bytesOf]
theorem bytesOf_append {l m a b : Nat} (hb : b < 256 ^ m) : bytesOf l a ++ bytesOf m b = bytesOf (l + m) (Nat.add (Nat.shiftLeft a (Nat.mul 8 m)) b) := by
  rw [shl8]
  have : bytesL (l + m) (Nat.add (a * 256 ^ m) b) = bytesL l a ++ bytesL m b := bytesL_append l m a b hb
  apply ByteArray.ext
  rw [ByteArray.data_append]
  simp only [bytesOf, this, List.append_toArray]
theorem strCat_lt {l m a b : Nat} (ha : a < 256 ^ l) (hb : b < 256 ^ m) : Nat.add (Nat.shiftLeft a (Nat.mul 8 m)) b < 256 ^ (l + m) := by
  rw [shl8, Nat.pow_add]
  show a * 256 ^ m + b < _
  have : a * 256 ^ m + 256 ^ m ≤ 256 ^ l * 256 ^ m := by rw [← Nat.succ_mul]; exact Nat.mul_le_mul_right _ ha
  omega

section
variable {P : Program} {φ : Phi} {H : Heap} {w : World}
theorem binOp_string (op : BinOp) (t : TypeId) (a b : ByteArray) : binOp op t (.string a) (.string b) = Op.stringOp op a b := by cases op <;> rfl
theorem gives_binStr {op : BinOp} {t : TypeId} {l a m b : Nat} {r : LV} (ha : a < 256 ^ l) (hb : b < 256 ^ m) (h : binStr op m b l a = some r) :
    ∃ v, (binOp op t (.string (bytesOf l a)) (.string (bytesOf m b))).run P w = .ok v w ∧ Rel φ r v := by
  rw [binOp_string]
  cases op
  case add =>
    have h' : strCat l a m b = some r := h
    unfold strCat at h'
    rw [ib_some] at h'
    obtain ⟨h1, h2⟩ := h'
    cases h2
    have h1 : l + m ≤ 9223372036854775807 := ble_iff.1 h1
    simp only [Op.stringOp, bytesOf_size]
    rw [if_neg (by rw [IntKind.max_i64]; omega), bytesOf_append hb]
    exact ⟨_, rfl, .str _ _ (strCat_lt ha hb)⟩
  case eql => have h' : some (LV.bool (strEq l a m b)) = some r := h; cases h'; simp only [Op.stringOp, bytesOf_toList, ← strEq_eq ha hb]; exact ⟨_, rfl, .bool _⟩
  case neq => have h' : some (LV.bool (bnot (strEq l a m b))) = some r := h; cases h'; rw [bnot_eq]; simp only [Op.stringOp, bytesOf_toList, ← strEq_eq ha hb]; exact ⟨_, rfl, .bool _⟩
  case lss => have h' : some (LV.bool (strLt l a m b)) = some r := h; cases h'; simp only [Op.stringOp, bytesOf_toList, ← strLt_eq ha hb]; exact ⟨_, rfl, .bool _⟩
  case geq => have h' : some (LV.bool (bnot (strLt l a m b))) = some r := h; cases h'; rw [bnot_eq]; simp only [Op.stringOp, bytesOf_toList, ← strLt_eq ha hb]; exact ⟨_, rfl, .bool _⟩
  case leq => cases h
  case gtr => cases h
  all_goals cases h
theorem gives_bin {F : Facts} (hF : FactsOk φ F) {op : BinOp} {t : TypeId} {x y r : LV} {u v : Value} (hx : Rel φ x u) (hy : Rel φ y v) (h : binLV x F op y = some r) : ∃ z, (binOp op t u v).run P w = .ok z w ∧ Rel φ r z := by
  cases hx with
  | int k a =>
    have h' : binIntY y F op k a = some r := h
    cases hy with
    | int j b => exact gives_binInt h'
    | sint j he h1 => obtain ⟨h3, h2⟩ := ib_some.1 (show ib (inK k a) (symBin F op k (.c a) j _) none = some r from h'); exact gives_symBin hF rfl he (inK_wrap h3) (fun _ => h1) h2
    | _ => cases h'
  | sint k he h1 =>
    rename_i e n
    have h' : symY y F op k e = some r := h
    cases hy with
    | int j b => have h2 : symBin F op k e j (.c b) = some r := h'; exact gives_symBin hF he rfl h1 (fun h => by cases h) h2
    | sint j he' h1' => have h2 : symBin F op k e j _ = some r := h'; exact gives_symBin hF he he' h1 (fun _ => h1') h2
    | _ => cases h'
  | str l a ha =>
    have h' : binStrY y op l a = some r := h
    cases hy with
    | str m b hb => exact gives_binStr ha hb h'
    | _ => cases h'
  | _ => cases h
theorem eqGuard_int {op : BinOp} {t : TypeId} {x y : Operand} {u v : Value} {a b r : LV} (hx : Rel φ a u) (hy : Rel φ b v) {F : Facts} (h : binLV a F op b = some r) : (eqGuard op t x y u v).run P w = .ok () w := by
  cases hx with
  | int k a => rw [eqGuard_at_int]; rfl
  | sint k he h1 => rw [eqGuard_at_int]; rfl
  | str l a ha => rw [eqGuard_at_string]; rfl
  | _ => cases h
end
end Go.LX

/- LX, part 8: the other operations that change no memory. -/
namespace Go.LX
section
variable {P : Program} {φ : Phi} {H : Heap} {w : World}

/-! equality -/
theorem beq_bool (a b : Bool) : (bnot (bxor a b)) = (a == b) := by cases a <;> cases b <;> rfl
theorem neg_bool (neg b : Bool) : bxor neg b = (if neg then !b else b) := by cases neg <;> cases b <;> rfl
def eqOp (neg : Bool) : BinOp := if neg then .neq else .eql
theorem isEq_some {op : BinOp} {neg : Bool} (h : isEq op = some neg) : op = eqOp neg := by cases op <;> simp [isEq] at h <;> subst h <;> rfl
/-- '==' and '!=' where the two are no whole numbers and no strings -/
theorem run_eqOp {neg : Bool} {t : TypeId} {u v : Value} {b : Bool} (h : (Op.equal t u v).run P w = .ok b w)
    (hb : (binOp .eql t u v = do pure (.bool (← Op.equal t u v))) ∧ (binOp .neq t u v = do pure (.bool (!(← Op.equal t u v))))) : (binOp (eqOp neg) t u v).run P w = .ok (.bool (bxor neg b)) w := by
  cases neg
  · show (binOp .eql t u v).run P w = _
    rw [hb.1]; simp [h, bxor_eq]
  · show (binOp .neq t u v).run P w = _
    rw [hb.2]; simp [h, bxor_eq]
theorem gives_eqB {neg : Bool} {t : TypeId} {a b : Bool} (ht : P.underlying t = some .bool) : (binOp (eqOp neg) t (.bool a) (.bool b)).run P w = .ok (.bool (bxor neg (bnot (bxor a b)))) w := by
  rw [beq_bool]
  exact run_eqOp (run_equal_bool w t a b ht) ⟨rfl, rfl⟩
/-- a value of a kind that may be nil -/
def KindIs : Nat → Bool → Value → Prop
  | 0, true, v => v = .pointer none
  | 0, false, v => ∃ a, v = .pointer (some a)
  | 1, true, v => v = .slice none 0 0
  | 1, false, v => ∃ a l c, v = .slice (some a) l c
  | 2, true, v => v = .map none
  | 2, false, v => ∃ r, v = .map (some r)
  | 3, true, v => v = .nilFunc
  | 3, false, v => ∃ f a c, v = .func f a c
  | 4, true, v => v = .nilIface
  | 4, false, v => ∃ t x, v = .iface t x
  | _, _, _ => False
theorem nilOf_kind {x : LV} {k : Nat} {b : Bool} {v : Value} (h : nilOf x = some (k, b)) (hv : Rel φ x v) : KindIs k b v := by
  cases hv <;> simp [nilOf] at h <;> obtain ⟨rfl, rfl⟩ := h <;> simp [KindIs]
def KindD : Nat → TypeDesc → Prop
  | 0, d => ∃ e, d = .pointer e
  | 1, d => ∃ e, d = .slice e
  | 2, d => ∃ k e, d = .map k e
  | 3, d => ∃ p q z, d = .func p q z
  | 4, d => ∃ m, d = .interface m
  | _, _ => False
theorem eqNil_some {kd : Nat} {x y : LV} {r : Bool} {u v : Value} (h : eqNilLV kd x y = some r) (hx : Rel φ x u) (hy : Rel φ y v) : ∃ a b, KindIs kd a u ∧ KindIs kd b v ∧ ((a = true ∧ r = b) ∨ (a = false ∧ b = true ∧ r = false)) := by
  unfold eqNilLV at h
  simp only [ob_some, ib_some] at h
  obtain ⟨⟨k1, a⟩, ha, ⟨k2, b⟩, hb, h1, h2, h3⟩ := h
  have e1 := beq_iff.1 h1
  have e2 := beq_iff.1 h2
  simp only at e1 e2 h3
  subst e1; subst e2
  refine ⟨a, b, nilOf_kind ha hx, nilOf_kind hb hy, ?_⟩
  cases a <;> cases b <;> simp at h3 <;> simp [h3]
theorem equalIn_nil (n : Nat) {t : TypeId} {d : TypeDesc} (ht : P.underlying t = some d) {kd : Nat} (hd : KindD kd d) {u v : Value} {a b r : Bool} (hu : KindIs kd a u) (hv : KindIs kd b v)
    (hr : (a = true ∧ r = b) ∨ (a = false ∧ b = true ∧ r = false)) : (Op.equalIn (n + 1) t u v).run P w = .ok r w := by
  simp only [Op.equalIn, Sem.run_bind, run_underlying ht, Result.andThen_ok]
  rcases kd with _ | _ | _ | _ | _ | m
  · obtain ⟨e, rfl⟩ := hd
    rcases hr with ⟨rfl, rfl⟩ | ⟨rfl, rfl, rfl⟩
    · cases r <;> simp only [KindIs] at hu hv <;> first | (subst hu; subst hv; simp; done) | (obtain ⟨_, rfl⟩ := hv; subst hu; simp; done)
    · simp only [KindIs] at hu hv; obtain ⟨_, rfl⟩ := hu; subst hv; simp
  · obtain ⟨e, rfl⟩ := hd
    rcases hr with ⟨rfl, rfl⟩ | ⟨rfl, rfl, rfl⟩
    · cases r <;> simp only [KindIs] at hu hv <;> first | (subst hu; subst hv; simp; done) | (obtain ⟨_, _, _, rfl⟩ := hv; subst hu; simp; done)
    · simp only [KindIs] at hu hv; obtain ⟨_, _, _, rfl⟩ := hu; subst hv; simp
  · obtain ⟨k, e, rfl⟩ := hd
    rcases hr with ⟨rfl, rfl⟩ | ⟨rfl, rfl, rfl⟩
    · cases r <;> simp only [KindIs] at hu hv <;> first | (subst hu; subst hv; simp; done) | (obtain ⟨_, rfl⟩ := hv; subst hu; simp; done)
    · simp only [KindIs] at hu hv; obtain ⟨_, rfl⟩ := hu; subst hv; simp
  · obtain ⟨p, q, z, rfl⟩ := hd
    rcases hr with ⟨rfl, rfl⟩ | ⟨rfl, rfl, rfl⟩
    · cases r <;> simp only [KindIs] at hu hv <;> first | (subst hu; subst hv; simp; done) | (obtain ⟨_, _, _, rfl⟩ := hv; subst hu; simp; done)
    · simp only [KindIs] at hu hv; obtain ⟨_, _, _, rfl⟩ := hu; subst hv; simp
  · obtain ⟨ms, rfl⟩ := hd
    rcases hr with ⟨rfl, rfl⟩ | ⟨rfl, rfl, rfl⟩
    · cases r <;> simp only [KindIs] at hu hv <;> first | (subst hu; subst hv; simp; done) | (obtain ⟨_, _, rfl⟩ := hv; subst hu; simp; done)
    · simp only [KindIs] at hu hv; obtain ⟨_, _, rfl⟩ := hu; subst hv; simp
  · cases hd
theorem equal_nil {t : TypeId} {d : TypeDesc} (ht : P.underlying t = some d) {kd : Nat} (hd : KindD kd d) {u v : Value} {a b r : Bool} (hu : KindIs kd a u) (hv : KindIs kd b v)
    (hr : (a = true ∧ r = b) ∨ (a = false ∧ b = true ∧ r = false)) : (Op.equal t u v).run P w = .ok r w := equalIn_nil 9999 ht hd hu hv hr
theorem gives_eqNil {neg : Bool} {t : TypeId} {d : TypeDesc} (ht : P.underlying t = some d) {kd : Nat} (hd : KindD kd d) {x y : LV} {u v : Value} {r : Bool} (hx : Rel φ x u) (hy : Rel φ y v) (h : eqNilLV kd x y = some r) :
    (binOp (eqOp neg) t u v).run P w = .ok (.bool (bxor neg r)) w := by
  obtain ⟨a, b, hu, hv, hr⟩ := eqNil_some h hx hy
  refine run_eqOp (equal_nil ht hd hu hv hr) ?_
  match kd, a, b with
  | 0, true, true => cases hu; cases hv; exact ⟨rfl, rfl⟩
  | 0, true, false => cases hu; obtain ⟨_, rfl⟩ := hv; exact ⟨rfl, rfl⟩
  | 0, false, true => obtain ⟨_, rfl⟩ := hu; cases hv; exact ⟨rfl, rfl⟩
  | 1, true, true => cases hu; cases hv; exact ⟨rfl, rfl⟩
  | 1, true, false => cases hu; obtain ⟨_, _, _, rfl⟩ := hv; exact ⟨rfl, rfl⟩
  | 1, false, true => obtain ⟨_, _, _, rfl⟩ := hu; cases hv; exact ⟨rfl, rfl⟩
  | 2, true, true => cases hu; cases hv; exact ⟨rfl, rfl⟩
  | 2, true, false => cases hu; obtain ⟨_, rfl⟩ := hv; exact ⟨rfl, rfl⟩
  | 2, false, true => obtain ⟨_, rfl⟩ := hu; cases hv; exact ⟨rfl, rfl⟩
  | 3, true, true => cases hu; cases hv; exact ⟨rfl, rfl⟩
  | 3, true, false => cases hu; obtain ⟨_, _, _, rfl⟩ := hv; exact ⟨rfl, rfl⟩
  | 3, false, true => obtain ⟨_, _, _, rfl⟩ := hu; cases hv; exact ⟨rfl, rfl⟩
  | 4, true, true => cases hu; cases hv; exact ⟨rfl, rfl⟩
  | 4, true, false => cases hu; obtain ⟨_, _, rfl⟩ := hv; exact ⟨rfl, rfl⟩
  | 4, false, true => obtain ⟨_, _, rfl⟩ := hu; cases hv; exact ⟨rfl, rfl⟩
  | 0, false, false | 1, false, false | 2, false, false | 3, false, false | 4, false, false => simp at hr
  | n + 5, _, _ => cases hu
theorem guard_eqNil {op : BinOp} {t : TypeId} {p q : Operand} {kd : Nat} {a b : Bool} {u v : Value} (hu : KindIs kd a u) (hv : KindIs kd b v) (hc : kd = 4 → isConst p = true ∨ isConst q = true) :
    (eqGuard op t p q u v).run P w = .ok () w := by
  match kd, a with
  | 0, true => cases hu; rw [eqGuard_at_pointer]; rfl
  | 0, false => obtain ⟨_, rfl⟩ := hu; rw [eqGuard_at_pointer]; rfl
  | 1, true => cases hu; rw [eqGuard_at_slice]; rfl
  | 1, false => obtain ⟨_, _, _, rfl⟩ := hu; rw [eqGuard_at_slice]; rfl
  | 2, true => cases hu; rw [eqGuard_at_map]; rfl
  | 2, false => obtain ⟨_, rfl⟩ := hu; rw [eqGuard_at_map]; rfl
  | 3, true => cases hu; rw [eqGuard_at_nilFunc]; rfl
  | 3, false => obtain ⟨_, _, _, rfl⟩ := hu; rw [eqGuard_at_func]; rfl
  | 4, false => obtain ⟨_, _, rfl⟩ := hu; rw [eqGuard_at_iface]; rfl
  | 4, true =>
    cases hu
    cases b with
    | false => obtain ⟨_, _, rfl⟩ := hv; rw [eqGuard_nil_iface]; rfl
    | true =>
      cases hv
      rcases hc rfl with h | h
      · cases p <;> simp [isConst] at h
        rw [eqGuard_nil_constL]; rfl
      · cases q <;> simp [isConst] at h
        rw [eqGuard_nil_constR]; rfl
  | n + 5, _ => cases hu
end
end Go.LX

/- LX, part 9: slices, indices, structs, conversions. -/
namespace Go.LX
section
variable {P : Program} {φ : Phi} {H : Heap} {w : World}

theorem rel_int {k : IntKind} {n : Int} {v : Value} (h : Rel φ (.int k n) v) : v = .int k n := by cases h; rfl
theorem rel_bool {b : Bool} {v : Value} (h : Rel φ (.bool b) v) : v = .bool b := by cases h; rfl
theorem rel_str {l n : Nat} {v : Value} (h : Rel φ (.str l n) v) : n < 256 ^ l ∧ v = .string (bytesOf l n) := by cases h; exact ⟨‹_›, rfl⟩
theorem rel_agg {cs : List LV} {v : Value} (h : Rel φ (.agg cs) v) : ∃ xs, v = .agg xs.toArray ∧ Rels φ cs xs := by cases h; exact ⟨_, rfl, ‹_›⟩
theorem rel_tup {cs : List LV} {v : Value} (h : Rel φ (.tup cs) v) : ∃ xs, v = .tuple xs.toArray ∧ Rels φ cs xs := by cases h; exact ⟨_, rfl, ‹_›⟩
theorem rel_ptr {b : Pos} {o : Nat} {v : Value} (h : Rel φ (.ptr b o) v) : ∃ B base lim, φ b = some (.blk B base lim) ∧ v = .pointer (some ⟨B, base + o, none⟩) := by cases h; exact ⟨_, _, _, ‹_›, rfl⟩
theorem rel_slice {b : Pos} {off len sz cap : Nat} {v : Value} (h : Rel φ (.slice b off len sz cap) v) : ∃ B base lim c a, φ b = some (.blk B base lim) ∧ v = .slice (some a) len c ∧ len ≤ c ∧ c ≤ maxLen ∧ off + c * sz ≤ lim ∧
    (cap = 0 ∨ cap = c + 1) ∧ (c = 0 ∨ a = ⟨B, base + off, none⟩) := by cases h; exact ⟨_, _, _, _, _, ‹_›, rfl, ‹_›, ‹_›, ‹_›, ‹_›, ‹_›⟩
theorem rel_map {m : Pos} {v : Value} (h : Rel φ (.map m) v) : ∃ r, φ m = some (.obj r) ∧ v = .map (some r) := by cases h; exact ⟨_, ‹_›, rfl⟩
theorem rel_itr {m : Pos} {v : Value} (h : Rel φ (.itr m) v) : ∃ r, φ m = some (.obj r) ∧ v = .pointer (some ⟨r, 0, none⟩) := by cases h; exact ⟨_, ‹_›, rfl⟩
theorem natOf_rel {x : LV} {n : Nat} {v : Value} (h : natOf x = some n) (hv : Rel φ x v) : ∃ k, v = .int k (.ofNat n) := by
  obtain ⟨k, rfl⟩ := natOf_some h
  exact ⟨k, rel_int hv⟩

/-! slices -/
/-- a bound of a slice expression -/
def BoundIs (x : Option Value) (n dflt : Nat) : Prop := match x with
  | none => n = dflt
  | some v => ∃ k, v = .int k (n : Int)
theorem sbound_sound {nt : Nat} {T : Trie LV} {ρ : Operand → Value} {xs : List Operand} (hop : OpdOk φ nt T ρ xs) {x : Option Operand} {lo : Option LOpd} {d n : Nat} (hx : ∀ y, x = some y → y ∈ xs)
    (h1 : opdO nt x = some lo) (h2 : sbound T lo d = some n) : BoundIs (x.map ρ) n d := by
  cases x with
  | none => simp only [opdO, Option.some.injEq] at h1; subst h1; have h2' : some d = some n := h2; cases h2'; rfl
  | some y =>
    simp only [opdO, Option.map_eq_some_iff] at h1
    obtain ⟨z, hz, rfl⟩ := h1
    have h2' : ob (getO z T) natOf = some n := h2
    obtain ⟨v, hv, hn⟩ := ob_some.1 h2'
    exact natOf_rel hn (hop.one (hx y rfl) hz hv)
theorem run_bound {n y : Nat} {k : IntKind} {code : BoundsCode} (h : n ≤ y) : (Instr.sliceBound (.int k (n : Int)) y code).run P w = .ok n w := by
  rw [run_sliceBound w k n y code (by omega) (by omega)]; simp
theorem run_bounds {isS : Bool} {len cap l h : Nat} {lo hi : Option Value} (hlo : BoundIs lo l 0) (hhi : BoundIs hi h len) (h1 : l ≤ h) (h2 : h ≤ cap) :
    (Instr.sliceBounds isS len cap lo hi none).run P w = .ok (l, h, cap) w := by
  unfold Instr.sliceBounds
  cases hi with
  | none =>
    have : h = len := hhi
    subst this
    cases lo with
    | none => have : l = 0 := hlo; subst this; simp
    | some v => obtain ⟨k, rfl⟩ := hlo; simp [run_bound h1]
  | some u =>
    obtain ⟨k', rfl⟩ := hhi
    cases lo with
    | none => have : l = 0 := hlo; subst this; simp [run_bound h2]
    | some v => obtain ⟨k, rfl⟩ := hlo; simp [run_bound h2, run_bound h1]
theorem bytesOf_extract (len n l h : Nat) (h1 : l ≤ h) (h2 : h ≤ len) : (bytesOf len n).extract l h = bytesOf (h - l) (strSub len n l h) := by
  apply ByteArray.ext
  simp only [bytesOf, ByteArray.data_extract, List.extract_toArray, List.extract_eq_take_drop, bytesL_sub len n l h h1 h2]
theorem gives_sliceStr {t : TypeId} (ht : P.underlying t = some .string) {len n l h : Nat} {lo hi : Option Value} (hn : n < 256 ^ len) (hlo : BoundIs lo l 0) (hhi : BoundIs hi h len) (h1 : l ≤ h) (h2 : h ≤ len) :
    (Instr.sliceAt t (.string (bytesOf len n)) lo hi none).run P w = .ok (.string (bytesOf (h - l) (strSub len n l h))) w := by
  rw [run_sliceAt_string w t _ _ _ _ ht]
  simp only [Instr.slice, Sem.run_bind, run_underlying ht, Result.andThen_ok]
  simp [run_bounds (P := P) (w := w) (isS := false) (cap := len) hlo hhi h1 h2, bytesOf_extract len n l h h1 h2]
theorem gives_sliceSl {t e : TypeId} (ht : P.underlying t = some (.slice e)) {sz : Nat} (hsz : szOf P e = some sz) {b : Pos} {off len cap l h : Nat} {v : Value} {lo hi : Option Value} (hv : Rel φ (.slice b off len sz cap) v)
    (hlo : BoundIs lo l 0) (hhi : BoundIs hi h len) (h1 : l ≤ h) (h2 : capOk cap len h = true) : Gives P φ w (Instr.sliceAt t v lo hi none) (.slice b (Nat.add off (Nat.mul l sz)) (Nat.sub h l) sz (capSub cap l)) := by
  obtain ⟨B, base, lim, c, a, hφ, rfl, hlc, hcm, hlim, hcap, ha⟩ := rel_slice hv
  · have hhc : h ≤ c := by
      rcases hcap with rfl | rfl
      · have := ble_iff.1 (show Nat.ble h len = true from h2); omega
      · exact ble_iff.1 (show Nat.ble h c = true from h2)
    have hu : (Instr.sliceAt t (.slice (some a) len c) lo hi none).run P w = .ok (.slice (if c = l then some a else some (a.add (l * sz))) (h - l) (c - l)) w := by
      have e1 : (Instr.sliceAt t (.slice (some a) len c) lo hi none).run P w = (Instr.slice t (.slice (some a) len c) lo hi none).run P w := by simp [Instr.sliceAt, run_underlying ht]
      rw [e1]
      simp only [Instr.slice, Sem.run_bind, run_underlying ht, Result.andThen_ok, run_bounds (P := P) (w := w) (isS := true) (cap := c) hlo hhi h1 hhc, szOf_some hsz, Sem.run_pure, Option.map_some]
    refine ⟨_, hu, ?_⟩
    have hl3 : off + l * sz + (c - l) * sz ≤ lim := by
      rw [Nat.add_assoc, ← Nat.add_mul, show l + (c - l) = c by omega]; exact hlim
    by_cases hcl : c = l
    · rw [if_pos hcl]
      refine .slice _ _ _ _ (c - l) a hφ (by show h - l ≤ c - l; omega) (by omega) hl3 ?_ (.inl (by omega))
      rcases hcap with rfl | rfl
      · exact .inl rfl
      · exact .inr rfl
    · rw [if_neg hcl]
      refine .slice _ _ _ _ (c - l) _ hφ (by show h - l ≤ c - l; omega) (by omega) hl3 ?_ (.inr ?_)
      · rcases hcap with rfl | rfl
        · exact .inl rfl
        · exact .inr rfl
      · rcases ha with h0 | rfl
        · omega
        · rw [addr_add, Nat.add_assoc]; rfl
theorem gives_sliceNil {t e : TypeId} (ht : P.underlying t = some (.slice e)) {sz : Nat} (hsz : szOf P e = some sz) {l h : Nat} {lo hi : Option Value} (hlo : BoundIs lo l 0) (hhi : BoundIs hi h 0) (h1 : l + h = 0) :
    (Instr.sliceAt t (.slice none 0 0) lo hi none).run P w = .ok (.slice none 0 0) w := by
  obtain ⟨rfl, rfl⟩ : l = 0 ∧ h = 0 := by omega
  have e1 : (Instr.sliceAt t (.slice none 0 0) lo hi none).run P w = (Instr.slice t (.slice none 0 0) lo hi none).run P w := by simp [Instr.sliceAt, run_underlying ht]
  rw [e1]
  simp [Instr.slice, run_underlying ht, run_bounds (P := P) (w := w) (isS := true) (cap := 0) hlo hhi (Nat.le_refl _) (Nat.le_refl _), szOf_some hsz]
/-- a slice of an array: its capacity is what is left of the array -/
theorem gives_sliceArr {t e : TypeId} {n : Nat} (ht : P.underlying t = some (.array n e) ∨ ∃ a, P.underlying t = some (.pointer a) ∧ P.underlying a = some (.array n e)) {sz : Nat} (hsz : szOf P e = some sz) {l h : Nat} {B base lim : Nat} {b : Pos} {off : Nat} {lo hi : Option Value}
    (hφ : φ b = some (.blk B base lim)) (hlim : off + n * sz ≤ lim) (hn : n ≤ maxLen) (hlo : BoundIs lo l 0) (hhi : BoundIs hi h n) (h1 : l ≤ h) (h2 : h ≤ n) :
    Gives P φ w (Instr.sliceAt t (.pointer (some ⟨B, base + off, none⟩)) lo hi none) (.slice b (Nat.add off (Nat.mul l sz)) (Nat.sub h l) sz (Nat.succ (Nat.sub n l))) := by
  have hu : (Instr.sliceAt t (.pointer (some ⟨B, base + off, none⟩)) lo hi none).run P w = .ok (.slice (some (if n = l then (⟨B, base + off, none⟩ : Addr) else (⟨B, base + off, none⟩ : Addr).add (l * sz))) (h - l) (n - l)) w := by
    rcases ht with ht | ⟨a, ht, ha⟩
    · simp only [Instr.sliceAt, Sem.run_bind, run_underlying ht, Result.andThen_ok, Instr.sureAddr, Sem.run_pure, run_bounds (P := P) (w := w) (isS := false) (cap := n) hlo hhi h1 h2, szOf_some hsz]
    · have e1 : (Instr.sliceAt t (.pointer (some ⟨B, base + off, none⟩)) lo hi none).run P w = (Instr.slice t (.pointer (some ⟨B, base + off, none⟩)) lo hi none).run P w := by simp [Instr.sliceAt, run_underlying ht]
      rw [e1]
      simp only [Instr.slice, Sem.run_bind, run_underlying ht, run_underlying ha, Result.andThen_ok, asAddr, Sem.run_pure, run_bounds (P := P) (w := w) (isS := false) (cap := n) hlo hhi h1 h2, szOf_some hsz]
  refine ⟨_, hu, ?_⟩
  refine .slice _ _ _ _ (n - l) _ hφ (by show h - l ≤ n - l; omega) (by omega) ?_ (.inr rfl) ?_
  · show off + l * sz + (n - l) * sz ≤ lim
    rw [Nat.add_assoc, ← Nat.add_mul, show l + (n - l) = n by omega]; exact hlim
  · by_cases hnl : n = l
    · exact .inl (by omega)
    · rw [if_neg hnl, addr_add, Nat.add_assoc]; exact .inr rfl

/-! indices -/
theorem gives_idxSl {t e : TypeId} (ht : P.underlying t = some (.slice e)) {sz : Nat} (hsz : szOf P e = some sz) {b : Pos} {off len cap n : Nat} {k : IntKind} {v : Value} (hv : Rel φ (.slice b off len sz cap) v) (hn : n < len) :
    Gives P φ w (Instr.indexAt t v (.int k (.ofNat n))) (.ptr b (Nat.add off (Nat.mul n sz))) := by
  obtain ⟨B, base, lim, c, a, hφ, rfl, hlc, hcm, hlim, hcap, ha⟩ := rel_slice hv
  · rcases ha with h0 | rfl
    · omega
    · refine ⟨.pointer (some ((⟨B, base + off, none⟩ : Addr).add (n * sz))), ?_, ?_⟩
      · simp only [Instr.indexAt, Sem.run_bind, asIntOf, Sem.run_pure, Result.andThen_ok, run_underlying ht]
        simp [hn, szOf_some hsz]
      · rw [addr_add, Nat.add_assoc]; exact .ptr _ hφ
theorem gives_idxArr {t e : TypeId} {len : Nat} (ht : P.underlying t = some (.array len e)) {sz : Nat} (hsz : szOf P e = some sz) {b : Pos} {o n : Nat} {k : IntKind} {v : Value} (hv : Rel φ (.ptr b o) v) (hn : n < len) :
    Gives P φ w (Instr.indexAt t v (.int k (.ofNat n))) (.ptr b (Nat.add o (Nat.mul n sz))) := by
  obtain ⟨B, base, lim, hφ, rfl⟩ := rel_ptr hv
  refine ⟨.pointer (some ((⟨B, base + o, none⟩ : Addr).add (n * sz))), ?_, ?_⟩
  · simp only [Instr.indexAt, Sem.run_bind, asIntOf, Sem.run_pure, Result.andThen_ok, run_underlying ht, Instr.sureAddr]
    simp [hn, szOf_some hsz]
  · rw [addr_add, Nat.add_assoc]; exact .ptr _ hφ
theorem gives_ixStr {t : TypeId} (ht : P.underlying t = some .string) {len s n : Nat} {k : IntKind} (hn : n < len) : (Instr.index t (.string (bytesOf len s)) (.int k (.ofNat n))).run P w = .ok (.int .u8 (.ofNat (strAt len s n))) w := by
  obtain ⟨h1, h2⟩ := strAt_eq len s n hn
  have h3 : (bytesOf len s)[n]? = some (UInt8.ofNat (strAt len s n)) := by
    rw [← h1]
    simp only [bytesOf]
    rw [getElem?_pos (h := by simp [ByteArray.size, hn]), List.getElem?_eq_getElem (by simpa using hn)]
    rfl
  simp only [Instr.index, Sem.run_bind, asIntOf, Sem.run_pure, Result.andThen_ok, run_underlying ht]
  rw [if_pos (show (0 : Int) ≤ Int.ofNat n from Int.natCast_nonneg n)]
  have e : (Int.ofNat n).toNat = n := rfl
  rw [e, h3]
  simp only [Sem.run_pure, UInt8.toNat_ofNat']
  rw [show strAt len s n % 2 ^ 8 = strAt len s n by omega]; rfl
theorem evBs_get {φ : Phi} : ∀ {es : List SE} {ns : List Nat} {i : Nat} {e : SE}, EvBs φ es ns → listGetS es i = some e → ∃ n, ns[i]? = some n ∧ e.ev φ = some (n : Int) ∧ n < 256
  | _, _, i, e, .nil, h => by cases h
  | _, _, 0, e, .cons h1 h2 h3, h => by
    rename_i e0 n0 es ns
    have h' : some e0 = some e := h
    cases h'; exact ⟨_, rfl, h1, h2⟩
  | _, _, i+1, e, .cons h1 h2 h3, h => by
    rename_i e0 n0 es ns
    have h' : listGetS es i = some e := h
    simpa using evBs_get h3 h'
theorem gives_ixSstr {φ : Phi} {t : TypeId} (ht : P.underlying t = some .string) {es : List SE} {ns : List Nat} {n : Nat} {k : IntKind} {e : SE} (hes : EvBs φ es ns) (he : listGetS es n = some e) :
    ∃ v, (Instr.index t (.string ⟨(ns.map UInt8.ofNat).toArray⟩) (.int k (.ofNat n))).run P w = .ok v w ∧ Rel φ (mkI .u8 e) v := by
  obtain ⟨m, h1, h2, h3⟩ := evBs_get hes he
  have hn : n < ns.length := (List.getElem?_eq_some_iff.1 h1).1
  have h4 : (⟨(ns.map UInt8.ofNat).toArray⟩ : ByteArray)[n]? = some (UInt8.ofNat m) := by
    rw [getElem?_pos (h := by simp [ByteArray.size, hn])]
    have : ns[n] = m := by rw [List.getElem?_eq_getElem hn] at h1; exact Option.some.inj h1
    show some ((ns.map UInt8.ofNat).toArray[n]'(by simp [hn])) = _
    simp [this]
  refine ⟨.int .u8 (m : Int), ?_, rel_mkI h2 (wrap_fix.2 ⟨by show (0 : Int) ≤ m; omega, by show (m : Int) ≤ 255; omega⟩)⟩
  simp only [Instr.index, Sem.run_bind, asIntOf, Sem.run_pure, Result.andThen_ok, run_underlying ht]
  rw [if_pos (show (0 : Int) ≤ Int.ofNat n from Int.natCast_nonneg n)]
  have e : (Int.ofNat n).toNat = n := rfl
  rw [e, h4]
  simp only [Sem.run_pure, UInt8.toNat_ofNat']
  rw [show m % 2 ^ 8 = m by omega]
theorem listGet_some {l : List LV} : ∀ {i : Nat} {x : LV}, listGet l i = some x → l[i]? = some x := by
  induction l with
  | nil => intro i x h; cases h
  | cons y ys ih =>
    intro i x h
    cases i with
    | zero => have h' : some y = some x := h; simpa using h'
    | succ i => have h' : listGet ys i = some x := h; simpa using ih h'
theorem listSub_some {l : List LV} {i n : Nat} {r : List LV} (h : listSub l i n = some r) : i + n ≤ l.length ∧ r = (l.drop i).take n := by
  unfold listSub at h
  rw [ib_some] at h
  exact ⟨ble_iff.1 h.1, by have := h.2; simp at this; exact this.symm⟩
theorem gives_part1 {t : TypeId} {n off : Nat} {cs : List LV} {xs : List Value} {x : LV} (ht : aggOrOne P t = some (false, n)) (h : listGet cs off = some x) (hr : Rels φ cs xs) : Gives P φ w (part t xs.toArray off) x := by
  obtain ⟨d, i, hd, hi, hn, ha, _⟩ := aggOrOne_some ht
  obtain ⟨v, hv, hrv⟩ := hr.get (listGet_some h)
  refine ⟨v, ?_, hrv⟩
  simp [part, run_isAgg' hd, ← ha, hv]
theorem gives_partN {t : TypeId} {n off : Nat} {cs r : List LV} {xs : List Value} (ht : aggOrOne P t = some (true, n)) (h : listSub cs off n = some r) (hr : Rels φ cs xs) : Gives P φ w (part t xs.toArray off) (.agg r) := by
  obtain ⟨d, i, hd, hi, hn, ha, _⟩ := aggOrOne_some ht
  obtain ⟨hl, rfl⟩ := listSub_some h
  refine ⟨.agg ((xs.drop off).take n).toArray, ?_, .agg ((hr.drop off).take n)⟩
  simp only [part, Sem.run_bind, run_isAgg' hd, ← ha, Result.andThen_ok, if_true, run_sizeOf' hi, hn, Sem.run_pure]
  congr 2
  simp [List.extract_toArray, List.extract_eq_take_drop]
end
end Go.LX

/- LX, part 10: keys of maps; what is read of maps. -/
namespace Go.LX
section
variable {P : Program} {φ : Phi} {H : Heap} {w : World}

/-! atoms -/
/-- a value of an atom's shape: true: a string -/
def AtomV : Bool → Value → Prop
  | false, v => ∃ k n, v = .int k n
  | true, v => ∃ s, v = .string s
theorem shapeB_some {x : LV} {s : Bool} {v : Value} (h : shapeB x s = true) (hx : Rel φ x v) : AtomV s v := by
  cases hx with
  | int k n => have h' : bnot s = true := h; cases s <;> simp at h'; exact ⟨_, _, rfl⟩
  | str l n hn => have h' : s = true := h; subst h'; exact ⟨_, rfl⟩
  | sint k he h1 => have h' : bnot s = true := h; cases s <;> simp at h'; exact ⟨_, _, rfl⟩
  | _ => cases h
theorem eqAtom_some {x y : LV} {r : Bool} {u v : Value} (h : eqAtom x y = some r) (hx : Rel φ x u) (hy : Rel φ y v) :
    (∃ k a b, u = .int k a ∧ v = .int k b ∧ r = (a == b)) ∨ (∃ s z, u = .string s ∧ v = .string z ∧ r = (s.toList == z.toList)) := by
  cases hx with
  | int k a =>
    have h' : eqIntY y k a = some r := h
    cases hy with
    | int j b =>
      have h2 : ib (kindEq j k) (some (intEq a b)) none = some r := h'
      rw [ib_some] at h2
      obtain ⟨h3, h4⟩ := h2
      have := kindEq_iff.1 h3
      subst this
      cases h4
      exact .inl ⟨j, a, b, rfl, rfl, intEq_eq a b⟩
    | _ => cases h'
  | sint k he h1 =>
    rename_i e n
    have h' : eqSintY y k e = some r := h
    cases hy with
    | sint j he' h1' =>
      rename_i e' n'
      have h2 : ib (kindEq j k) (ib (seEq e e') (some true) none) none = some r := h'
      rw [ib_some, ib_some] at h2
      obtain ⟨h3, h4, h5⟩ := h2
      have := kindEq_iff.1 h3
      subst this
      have := seEq_eq h4
      subst this
      rw [he] at he'
      cases he'
      cases h5
      exact .inl ⟨_, _, _, rfl, rfl, by simp⟩
    | _ => cases h'
  | str l a ha =>
    have h' : eqStrY y l a = some r := h
    cases hy with
    | str m b hb =>
      have h2 : some (strEq l a m b) = some r := h'
      cases h2
      exact .inr ⟨_, _, rfl, rfl, by rw [bytesOf_toList, bytesOf_toList]; exact strEq_eq ha hb⟩
    | _ => cases h'
  | _ => cases h
theorem atomK_some {t : TypeId} {s : Bool} (h : atomK P t = some s) : ∃ d, P.underlying t = some d ∧ ((s = false ∧ ∃ k, d = .int k) ∨ (s = true ∧ d = .string)) := by
  unfold atomK at h
  split at h
  · rename_i k hd; cases h; exact ⟨_, hd, .inl ⟨rfl, k, rfl⟩⟩
  · rename_i hd; cases h; exact ⟨_, hd, .inr ⟨rfl, rfl⟩⟩
  · cases h
theorem equalIn_atom (n : Nat) {t : TypeId} {s : Bool} (ht : atomK P t = some s) {x y : LV} {r : Bool} {u v : Value} (h : eqAtom x y = some r) (hx : Rel φ x u) (hy : Rel φ y v) (hu : AtomV s u) :
    (Op.equalIn (n + 1) t u v).run P w = .ok r w := by
  obtain ⟨d, hd, hs⟩ := atomK_some ht
  rcases eqAtom_some h hx hy with ⟨k, a, b, rfl, rfl, rfl⟩ | ⟨s', z, rfl, rfl, rfl⟩
  · rcases hs with ⟨rfl, k', rfl⟩ | ⟨rfl, rfl⟩
    · exact run_equalIn_int w n t k k' a b hd
    · obtain ⟨_, e⟩ := hu; cases e
  · rcases hs with ⟨rfl, k', rfl⟩ | ⟨rfl, rfl⟩
    · obtain ⟨_, _, e⟩ := hu; cases e
    · exact run_equalIn_string w n t s' z hd
/-! flat structs -/
theorem shapesB_some : ∀ {xs : List LV} {fs : List Bool} {vs : List Value}, shapesB xs fs = true → Rels φ xs vs → xs.length = fs.length ∧ ∀ (i : Nat) (v : Value) (s : Bool), vs[i]? = some v → fs[i]? = some s → AtomV s v
  | [], [], _, _, .nil => ⟨rfl, fun i v s h => by simp at h⟩
  | x :: xs, s :: ss, _, h, .cons hx hxs => by
    have h' : ib (shapeB x s) (shapesB xs ss) false = true := h
    rw [ib_ff] at h'
    obtain ⟨h1, h2⟩ := shapesB_some h'.2 hxs
    refine ⟨by simp [h1], fun i v s' hv hs => ?_⟩
    cases i with
    | zero => simp at hv hs; subst hv; subst hs; exact shapeB_some h'.1 hx
    | succ i => simp at hv hs; exact h2 i v s' hv hs
  | [], _ :: _, _, h, _ => by cases h
  | _ :: _, [], _, h, _ => by cases h
theorem part_atom {t : TypeId} {s : Bool} (ht : atomK P t = some s) {cs : Array Value} {off : Nat} {v : Value} (hv : cs[off]? = some v) : (part t cs off).run P w = .ok v w := by
  obtain ⟨d, hd, hs⟩ := atomK_some ht
  have : isAggD d = false := by rcases hs with ⟨_, k, rfl⟩ | ⟨_, rfl⟩ <;> rfl
  simp [part, run_isAgg' hd, this, hv]
theorem flatF_cons {f : Field} {fs : List Field} {i : Nat} {bs : List Bool} (h : flatF P (f :: fs) i = some bs) : ∃ b bs', atomK P f.type = some b ∧ flatF P fs (i + 1) = some bs' ∧ f.offset = i ∧ f.name ≠ "_" ∧ bs = b :: bs' := by
  simp only [flatF] at h
  split at h
  · rename_i b bs' hb hbs
    split at h
    · rename_i hc; cases h; exact ⟨b, bs', hb, hbs, hc.1, hc.2, rfl⟩
    · cases h
  · cases h
theorem eqFields_flat (n : Nat) : ∀ {fs : List Field} {i : Nat} {bs : List Bool} {xs ys : List LV} {us vs : List Value} {pu pv : List Value} {r : Bool}, flatF P fs i = some bs → shapesB xs bs = true → Rels φ xs us → Rels φ ys vs → eqAtoms xs ys = some r →
    pu.length = i → pv.length = i → (Op.eqFields (n + 1) (pu ++ us).toArray (pv ++ vs).toArray fs).run P w = .ok r w
  | [], i, bs, xs, ys, us, vs, pu, pv, r, hf, hs, hx, hy, he, h1, h2 => by
    simp only [flatF, Option.some.injEq] at hf
    subst hf
    cases xs with
    | cons _ _ => cases hs
    | nil => cases ys with
      | cons _ _ => cases he
      | nil => have he' : some true = some r := he; cases he'; rfl
  | f :: fs, i, bs, xs, ys, us, vs, pu, pv, r, hf, hs, hx, hy, he, h1, h2 => by
    obtain ⟨b, bs', hb, hbs, ho, hn, rfl⟩ := flatF_cons hf
    cases hx with
    | nil => cases hs
    | cons hx0 hxs =>
      rename_i x u xs us
      cases hy with
      | nil => cases he
      | cons hy0 hys =>
        rename_i y v ys vs
        have hs' : ib (shapeB x b) (shapesB xs bs') false = true := hs
        rw [ib_ff] at hs'
        have he' : (ob (eqAtom x y) fun c => ib c (eqAtoms xs ys) (some false)) = some r := he
        obtain ⟨c, hc, hrest⟩ := ob_some.1 he'
        have e1 : (pu ++ u :: us).toArray[f.offset]? = some u := by simp [ho, ← h1]
        have e2 : (pv ++ v :: vs).toArray[f.offset]? = some v := by simp [ho, ← h2]
        simp only [Op.eqFields, if_pos hn, Sem.run_bind, part_atom hb e1, part_atom hb e2, Result.andThen_ok, equalIn_atom n hb hc hx0 hy0 (shapeB_some hs'.1 hx0)]
        cases c with
        | false => simp at hrest; subst hrest; rfl
        | true =>
          have ih := eqFields_flat n (pu := pu ++ [u]) (pv := pv ++ [v]) hbs hs'.2 hxs hys hrest (by simp [h1]) (by simp [h2])
          simp only [List.append_assoc, List.singleton_append] at ih
          simpa using ih
theorem flatT_some {t : TypeId} {bs : List Bool} (h : flatT P t = some bs) : ∃ fs, P.underlying t = some (.struct fs) ∧ P.stoodInHeld t = false ∧ flatF P fs.toList 0 = some bs := by
  unfold flatT at h
  split at h
  · rename_i fs hd
    split at h
    · cases h
    · rename_i hh; exact ⟨fs, hd, by simpa using hh, h⟩
  · cases h
theorem equalIn_flat (n : Nat) {t : TypeId} {bs : List Bool} (ht : flatT P t = some bs) {xs ys : List LV} {us vs : List Value} {r : Bool} (hs : shapesB xs bs = true) (hx : Rels φ xs us) (hy : Rels φ ys vs) (he : eqAtoms xs ys = some r) :
    (Op.equalIn (n + 2) t (.agg us.toArray) (.agg vs.toArray)).run P w = .ok r w := by
  obtain ⟨fs, hd, hh, hf⟩ := flatT_some ht
  have hfo : P.fieldsOf t = fs := by simp [Program.fieldsOf, hd]
  rw [run_equalIn_struct w (n + 1) t _ _ (by rw [hfo]; exact hd) hh, hfo]
  exact eqFields_flat n (pu := []) (pv := []) hf hs hx hy he rfl rfl
theorem flat_guard : ∀ {fs : List Field} {i : Nat} {bs : List Bool} (d : Nat), flatF P fs i = some bs → (fs.any fun f => f.name != "_" && P.eqGuardType (d + 1) f.type) = false
  | [], i, bs, d, h => rfl
  | f :: fs, i, bs, d, h => by
    obtain ⟨b, bs', hb, hbs, ho, hn, rfl⟩ := flatF_cons h
    obtain ⟨dd, hd, hs⟩ := atomK_some hb
    have e : P.eqGuardType (d + 1) f.type = false := by
      simp only [Program.eqGuardType, hd]
      rcases hs with ⟨_, k, rfl⟩ | ⟨_, rfl⟩ <;> rfl
    simp only [List.any_cons, e, Bool.and_false, Bool.false_or]
    exact flat_guard d hbs
theorem gives_eqFlat {neg : Bool} {t : TypeId} {bs : List Bool} (ht : flatT P t = some bs) {xs ys : List LV} {us vs : List Value} {r : Bool} (hs : shapesB xs bs = true) (hx : Rels φ xs us) (hy : Rels φ ys vs) (he : eqAtoms xs ys = some r) :
    (binOp (eqOp neg) t (.agg us.toArray) (.agg vs.toArray)).run P w = .ok (.bool (bxor neg r)) w :=
  run_eqOp (equalIn_flat 9998 ht hs hx hy he) ⟨rfl, rfl⟩
theorem guard_eqFlat {op : BinOp} {t : TypeId} {p q : Operand} {bs : List Bool} (ht : flatT P t = some bs) {us vs : Array Value} : (eqGuard op t p q (.agg us) (.agg vs)).run P w = .ok () w := by
  obtain ⟨fs, hd, hh, hf⟩ := flatT_some ht
  refine run_eqGuard_agg w op t p q us vs ?_
  have hdep : ∃ d, P.depth = d + 2 := ⟨P.depth - 2, by unfold Program.depth; omega⟩
  obtain ⟨d, hd2⟩ := hdep
  rw [hd2]
  simp only [Program.eqGuardType, hd]
  rw [← Array.any_toList]
  exact flat_guard d hf
end
end Go.LX

/- LX, part 11: maps that are read. -/
namespace Go.LX
section
variable {P : Program} {φ : Phi} {H : Heap} {w : World}

theorem eqKey_atom {x y : LV} (h : aggOf x = none) : eqKey x y = eqAtom x y := by unfold eqKey; rw [h]
/-- what a key's look says of it -/
inductive KeyV (P : Program) (φ : Phi) (t : TypeId) : LV → Value → Prop
  | atom {s : Bool} {x : LV} {v : Value} (ht : atomK P t = some s) (hx : Rel φ x v) (hv : AtomV s v) : KeyV P φ t x v
  | flat {bs : List Bool} {xs : List LV} {vs : List Value} (ha : atomK P t = none) (ht : flatT P t = some bs) (hs : shapesB xs bs = true) (hx : Rels φ xs vs) : KeyV P φ t (.agg xs) (.agg vs.toArray)
theorem keyV_of {t : TypeId} {kt : KT} {x : LV} {v : Value} (ht : keyT P t = some kt) (hk : keyOk kt x = true) (hx : Rel φ x v) : KeyV P φ t x v := by
  unfold keyT at ht
  split at ht
  · rename_i h1; cases ht; exact .atom h1 hx (shapeB_some hk hx)
  · rename_i h1; cases ht; exact .atom h1 hx (shapeB_some hk hx)
  · rename_i fs h1 h2
    cases ht
    have hk' : shapeAgg x fs = true := hk
    cases hx with
    | agg hxs => exact .flat h1 h2 hk' hxs
    | _ => cases hk'
  · cases ht
theorem atomV_agg {s : Bool} {x : LV} {v : Value} (hx : Rel φ x v) (hv : AtomV s v) : aggOf x = none := by
  cases hx <;> first | rfl | (cases s <;> simp only [AtomV] at hv <;> obtain ⟨_, h⟩ := hv <;> first | (cases h; done) | (obtain ⟨_, h⟩ := h; cases h))
theorem equal_key {t : TypeId} {x y : LV} {u v : Value} {r : Bool} (hk : KeyV P φ t x u) (hy : Rel φ y v) (h : eqKey x y = some r) : (Op.equal t u v).run P w = .ok r w := by
  cases hk with
  | atom ht hx hv => rw [eqKey_atom (atomV_agg hx hv)] at h; exact equalIn_atom 9999 ht h hx hy hv
  | flat ha ht hs hx =>
    have h' : (ob (aggOf y) fun ys => eqAtoms _ ys) = some r := h
    obtain ⟨ys, h1, h2⟩ := ob_some.1 h'
    rw [aggOf_some h1] at hy
    obtain ⟨vs, rfl, hys⟩ := rel_agg hy
    exact equalIn_flat 9998 ht hs hx hys h2
theorem sameNow_atom {t : TypeId} {s : Bool} {d : TypeDesc} (ht : atomK P t = some s) (hd : P.underlying t = some d) {x y : LV} {u v : Value} {r : Bool} (hx : Rel φ x u) (hv : AtomV s u) (hy : Rel φ y v) (h : eqAtom x y = some r) :
    Instr.sameNow d u v = some r := by
  obtain ⟨d', hd', hs⟩ := atomK_some ht
  rw [hd] at hd'; cases hd'
  rcases eqAtom_some h hx hy with ⟨k, a, b, rfl, rfl, rfl⟩ | ⟨s', z, rfl, rfl, rfl⟩
  · rcases hs with ⟨rfl, k', rfl⟩ | ⟨rfl, rfl⟩
    · simp [Instr.sameNow]
    · obtain ⟨_, e⟩ := hv; cases e
  · rcases hs with ⟨rfl, k', rfl⟩ | ⟨rfl, rfl⟩
    · obtain ⟨_, _, e⟩ := hv; cases e
    · simp only [Instr.sameNow]; rw [beq_toListBytes]
theorem sameNow_agg (d : TypeDesc) (u : Array Value) (v : Value) : Instr.sameNow d (.agg u) v = none := by cases d <;> rfl

/-- the entry that a key finds, and its place -/
inductive Found (φ : Phi) (x : LV) : Option Ent → Option (Nat × Value) → List Ent → List MapEntry → Nat → Prop
  | none {es : List Ent} {ms : List MapEntry} {i : Nat} : Found φ x none none es ms i
  | some {e : Ent} {m : MapEntry} {es : List Ent} {ms : List MapEntry} {i j : Nat} (hj : es[j]? = some e) (hm : ms[j]? = some m) (hr : EntRel φ e m) (hset : ∀ v, setEnt x v es = es.set j ⟨e.key, v, e.born⟩) (hdel : delEnt x es = es.eraseIdx j)
      (heq : eqKey x e.key = Option.some true) : Found φ x (some e) (some (i + j, m.val)) es ms i
theorem Found.cons {x : LV} {e0 : Ent} {m0 : MapEntry} {r : Option Ent} {q : Option (Nat × Value)} {es : List Ent} {ms : List MapEntry} {i : Nat} (h0 : eqKey x e0.key = Option.some false) (h : Found φ x r q es ms (i + 1)) : Found φ x r q (e0 :: es) (m0 :: ms) i := by
  cases h with
  | none => exact .none
  | some hj hm hr hset hdel heq =>
    rename_i e m j
    have := Found.some (φ := φ) (x := x) (i := i) (j := j + 1) (es := e0 :: es) (ms := m0 :: ms) (by simpa using hj) (by simpa using hm) hr (fun v => by simp [setEnt, h0, ib, hset v]) (by simp [delEnt, h0, ib, hdel]) heq
    rw [show i + (j + 1) = i + 1 + j by omega] at this
    exact this
theorem Found.here {x : LV} {e : Ent} {m : MapEntry} {es : List Ent} {ms : List MapEntry} {i : Nat} (h0 : eqKey x e.key = Option.some true) (hr : EntRel φ e m) : Found φ x (Option.some e) (Option.some (i, m.val)) (e :: es) (m :: ms) i :=
  .some (j := 0) rfl rfl hr (fun v => by simp [setEnt, h0, ib]) (by simp [delEnt, h0, ib]) h0
theorem findAsking_sound {t : TypeId} {x : LV} {u : Value} (hk : KeyV P φ t x u) : ∀ {es : List Ent} {ms : List MapEntry} {r : Option Ent} (i : Nat), EntsRel φ es ms → findEnt x es = some r →
    ∃ q, (Instr.findAsking t u ms i).run P w = .ok q w ∧ Found φ x r q es ms i
  | [], _, r, i, .nil, h => by have h' : some (none : Option Ent) = some r := h; cases h'; exact ⟨none, rfl, .none⟩
  | e :: es, _, r, i, .cons hr hrs, h => by
    rename_i m ms
    have h' : (ob (eqKey x e.key) fun b => ib b (some (some e)) (findEnt x es)) = some r := h
    obtain ⟨b, hb, hrest⟩ := ob_some.1 h'
    have heq := equal_key (w := w) hk hr.key hb
    cases b with
    | true =>
      have : some (some e) = some r := hrest
      cases this
      refine ⟨some (i, m.val), ?_, .here hb hr⟩
      simp [Instr.findAsking, heq]
    | false =>
      obtain ⟨q, hq, hf⟩ := findAsking_sound hk (i + 1) hrs hrest
      refine ⟨q, ?_, hf.cons hb⟩
      simp [Instr.findAsking, heq, hq]
theorem findNow_sound {t : TypeId} {s : Bool} {d : TypeDesc} (ht : atomK P t = some s) (hd : P.underlying t = some d) {x : LV} {u : Value} (hx : Rel φ x u) (hv : AtomV s u) : ∀ {es : List Ent} {ms : List MapEntry} {r : Option Ent} (i : Nat), EntsRel φ es ms → findEnt x es = some r →
    ∃ q, Instr.findNow d u ms i = some q ∧ Found φ x r q es ms i
  | [], _, r, i, .nil, h => by have h' : some (none : Option Ent) = some r := h; cases h'; exact ⟨none, rfl, .none⟩
  | e :: es, _, r, i, .cons hr hrs, h => by
    rename_i m ms
    have h' : (ob (eqKey x e.key) fun b => ib b (some (some e)) (findEnt x es)) = some r := h
    obtain ⟨b, hb, hrest⟩ := ob_some.1 h'
    have hb0 := hb
    rw [eqKey_atom (atomV_agg hx hv)] at hb
    have heq := sameNow_atom ht hd hx hv hr.key hb
    cases b with
    | true =>
      have : some (some e) = some r := hrest
      cases this
      refine ⟨some (i, m.val), ?_, .here hb0 hr⟩
      simp [Instr.findNow, heq]
    | false =>
      obtain ⟨q, hq, hf⟩ := findNow_sound ht hd hx hv (i + 1) hrs hrest
      refine ⟨q, ?_, hf.cons hb0⟩
      simp [Instr.findNow, heq, hq]
theorem findNow_agg {d : TypeDesc} {u : Array Value} : ∀ (ms : List MapEntry) (i : Nat), ms ≠ [] → Instr.findNow d (.agg u) ms i = none
  | [], i, h => absurd rfl h
  | m :: ms, i, _ => by simp [Instr.findNow, sameNow_agg]
theorem findKey_sound {t : TypeId} {x : LV} {u : Value} (hk : KeyV P φ t x u) {es : List Ent} {ms : List MapEntry} {r : Option Ent} (he : EntsRel φ es ms) (h : findEnt x es = some r) :
    ∃ q, (Instr.findKey t u ms).run P w = .ok q w ∧ Found φ x r q es ms 0 := by
  have hk' := hk
  cases hk with
  | atom ht hx hv =>
    obtain ⟨d, hd, _⟩ := atomK_some ht
    obtain ⟨q, hq, hf⟩ := findNow_sound ht hd hx hv 0 he h
    exact ⟨q, by simp [Instr.findKey, run_underlying hd, hq], hf⟩
  | flat ha ht hs hx =>
    obtain ⟨fs, hd, _, _⟩ := flatT_some ht
    obtain ⟨q, hq, hf⟩ := findAsking_sound (w := w) hk' 0 he h
    refine ⟨q, ?_, hf⟩
    by_cases hms : ms = []
    · subst hms
      have hq' : q = none := by
        have : (Result.ok none w : Result (Option (Nat × Value))) = .ok q w := hq
        cases this; rfl
      subst hq'
      simp [Instr.findKey, run_underlying hd, Instr.findNow]
    · simp [Instr.findKey, run_underlying hd, findNow_agg ms 0 hms, hq]
theorem checkKey_atom (n : Nat) (e : Bool) {t : TypeId} {s : Bool} (ht : atomK P t = some s) (u : Value) : (Instr.checkKey e (n + 1) t u).run P w = .ok () w := by
  obtain ⟨d, hd, hs⟩ := atomK_some ht
  rcases hs with ⟨_, k, rfl⟩ | ⟨_, rfl⟩ <;> simp [Instr.checkKey, run_underlying hd]
theorem checkKey_flat (n : Nat) (e : Bool) {t : TypeId} {bs : List Bool} (ht : flatT P t = some bs) {us : List Value} (hl : us.length = bs.length) : (Instr.checkKey e (n + 2) t (.agg us.toArray)).run P w = .ok () w := by
  obtain ⟨fs, hd, _, hf⟩ := flatT_some ht
  obtain ⟨m, hm⟩ : ∃ m, m = n + 1 := ⟨_, rfl⟩
  rw [show n + 2 = m + 1 by omega]
  simp only [Instr.checkKey, Sem.run_bind, run_underlying hd, Result.andThen_ok]
  subst hm
  rw [← Array.forIn_toList]
  revert hf hl
  generalize fs.toList = l
  intro hl hf
  suffices hs : ∀ (l : List Field) (i : Nat) (bs : List Bool) (us pu : List Value), flatF P l i = some bs → us.length = bs.length → pu.length = i →
      (forIn l PUnit.unit fun f _ => (do
        if f.name ≠ "_" then
          let a ← part f.type (pu ++ us).toArray f.offset
          Instr.checkKey e (n + 1) f.type a
          pure (ForInStep.yield PUnit.unit)
        else pure (ForInStep.yield PUnit.unit) : Sem (ForInStep PUnit))).run P w = .ok PUnit.unit w by
    have := hs l 0 bs us [] hf hl rfl
    simp only [List.nil_append] at this
    rw [this]; rfl
  intro l
  induction l with
  | nil => intro i bs us pu h hl hp; simp
  | cons f fs ih =>
    intro i bs us pu h hl hp
    obtain ⟨b, bs', hb, hbs, ho, hn, rfl⟩ := flatF_cons h
    cases us with
    | nil => simp at hl
    | cons u us =>
      have e1 : (pu ++ u :: us).toArray[f.offset]? = some u := by simp [ho, ← hp]
      have ih := ih _ _ us (pu ++ [u]) hbs (by simpa using hl) (by simp [hp])
      simp only [List.append_assoc, List.singleton_append] at ih
      simp only [List.forIn_cons, Sem.run_bind, if_pos hn, part_atom hb e1, Result.andThen_ok, checkKey_atom n e hb, Sem.run_pure]
      exact ih
theorem checkKey_sound (e : Bool) {t : TypeId} {x : LV} {u : Value} (hk : KeyV P φ t x u) : (Instr.checkKey e 10000 t u).run P w = .ok () w := by
  cases hk with
  | atom ht hx hv => exact checkKey_atom 9999 e ht u
  | flat ha ht hs hx => exact checkKey_flat 9998 e ht (by rw [hx.length, (shapesB_some hs hx).1])
end
end Go.LX

/- LX, part 12: what is left of the pure operations; all of them. -/
namespace Go.LX
section
variable {P : Program} {φ : Phi} {H : Heap} {w : World}

theorem Sim.map (h : Sim P φ H w) {m : Pos} {o : LO} {es : List Ent × Nat} (hm : H.t.get m = some o) (ho : o.asMap = some es) :
    ∃ r ms, φ m = some (.obj r) ∧ w.heap[r]? = some (.map ms es.2) ∧ EntsRel φ es.1 ms.toList := by
  have e := asMap_some ho
  subst e
  obtain ⟨r, x, h1, h2, h3⟩ := h.obj hm (by simp)
  cases h3 with
  | map clock hr => exact ⟨r, _, h1, h2, hr⟩
theorem run_getObj {r : Nat} {o : Obj} (h : w.heap[r]? = some o) (hn : ∀ c e f, o ≠ .cells c e f) : (getObj r).run P w = .ok o w := by
  unfold getObj
  simp only [Sem.run, h]
theorem run_getMap {r : Nat} {ms : Array MapEntry} {c : Nat} (h : w.heap[r]? = some (.map ms c)) : (getObj r).run P w = .ok (.map ms c) w := run_getObj h (by simp)
theorem rel_okPair {ok : Bool} {x : LV} {v : Value} (hx : Rel φ x v) (b : Bool) : Rel φ (okPair ok x b) (if ok then .tuple #[v, .bool b] else v) := by
  cases ok
  · exact hx
  · exact .tup (.cons hx (.cons (.bool b) .nil))
theorem lookupLV_some {m : LV} {zero kv x : LV} {ok : Bool} (h : lookupLV m H zero ok kv = some x) :
    (m = .nilmap ∧ x = okPair ok zero false) ∨ ∃ p o es r, m = .map p ∧ H.t.get p = some o ∧ o.asMap = some es ∧ findEnt kv es.1 = some r ∧ x = (match r with | none => okPair ok zero false | some e => okPair ok e.val true) := by
  cases m with
  | nilmap => have h' : some (okPair ok zero false) = some x := h; cases h'; exact .inl ⟨rfl, rfl⟩
  | map p =>
    have h' : (ob (H.t.get p) fun o => ob o.asMap fun es => ob (findEnt kv es.1) fun r => @Option.rec Ent (fun _ => Option LV) (some (okPair ok zero false)) (fun e => some (okPair ok e.val true)) r) = some x := h
    simp only [ob_some] at h'
    obtain ⟨o, h1, es, h2, r, h3, h4⟩ := h'
    refine .inr ⟨p, o, es, r, rfl, h1, h2, h3, ?_⟩
    cases r <;> (simp at h4; exact h4.symm)
  | _ => cases h
theorem gives_lookup (hs : Sim P φ H w) {t kt e : TypeId} {k : KT} {zero kv x : LV} {ok : Bool} {m : LV} {u v : Value} (ht : P.underlying t = some (.map kt e)) (hk : keyT P kt = some k) (hz : zeroOf P e = some zero)
    (hok : keyOk k kv = true) (hv : Rel φ kv v) (hm : Rel φ m u) (h : lookupLV m H zero ok kv = some x) : Gives P φ w (Instr.lookup t u v ok) x := by
  obtain ⟨iz, z, _, _, hzr, hzrun⟩ := zeroOf_some (φ := φ) (w := w) hz
  have hkey := keyV_of hk hok hv
  rcases lookupLV_some h with ⟨rfl, rfl⟩ | ⟨p, o, es, r, rfl, h1, h2, h3, rfl⟩
  · cases hm
    refine ⟨_, ?_, rel_okPair hzr false⟩
    have hc := checkKey_sound (w := w) true hkey
    obtain ⟨q, hq, hf⟩ := findKey_sound (w := w) hkey (es := []) .nil (r := none) rfl
    cases hf
    simp [Instr.lookup, run_underlying ht, hc, hq, hzrun]
  · obtain ⟨rr, hφ, rfl⟩ := rel_map hm
    obtain ⟨r', ms, hφ', hheap, hrel⟩ := hs.map h1 h2
    rw [hφ] at hφ'; cases hφ'
    obtain ⟨q, hq, hf⟩ := findKey_sound (w := w) hkey hrel h3
    have hc := checkKey_sound (w := w) ms.isEmpty hkey
    have hg := run_getMap (P := P) hheap
    cases hf with
    | none =>
      refine ⟨_, ?_, rel_okPair hzr false⟩
      simp [Instr.lookup, run_underlying ht, hg, hc, hq, hzrun]
    | some hj hmj hr =>
      refine ⟨_, ?_, rel_okPair hr.val true⟩
      simp [Instr.lookup, run_underlying ht, hg, hc, hq]
theorem gives_lenMap (hs : Sim P φ H w) {t kt e ty : TypeId} {m x : LV} {u : Value} (ht : P.underlying t = some (.map kt e)) (hm : Rel φ m u) (h : lenMapLV m H = some x) : Gives P φ w (Builtin.len_ #[t] ty #[u]) x := by
  cases hm with
  | nilmap =>
    have h' : some (LV.int .i64 (.ofNat 0)) = some x := h
    cases h'
    exact ⟨_, by simp [Builtin.len_, run_underlying ht, goInt], .int _ _⟩
  | map hφ =>
    rename_i p r
    have h' : (ob (H.t.get p) fun o => ob o.asMap fun es => some (LV.int .i64 (.ofNat es.1.length))) = some x := h
    simp only [ob_some] at h'
    obtain ⟨o, h1, es, h2, h3⟩ := h'
    cases h3
    obtain ⟨r', ms, hφ', hheap, hrel⟩ := hs.map h1 h2
    rw [hφ] at hφ'; cases hφ'
    have e : ms.size = es.1.length := by rw [← Array.length_toList]; exact hrel.length
    refine ⟨.int .i64 ms.size, ?_, by rw [e]; exact .int _ _⟩
    simp [Builtin.len_, run_underlying ht, run_getMap (P := P) hheap, goInt]
  | _ => cases h
theorem find_born {es : List Ent} {ms : List MapEntry} (he : EntsRel φ es ms) {s : Nat} {e : Ent} (h : es.find? (fun e => Nat.beq e.born s) = some e) : ∃ m, ms.find? (·.born == s) = some m ∧ EntRel φ e m := by
  induction he with
  | nil => cases h
  | cons hr hrs ih =>
    rename_i e0 m0 es ms
    have e1 : (Nat.beq e0.born s) = (m0.born == s) := by rw [Bool.eq_iff_iff, beq_iff, beq_iff_eq, hr.born]
    rw [List.find?_cons] at h ⊢
    rw [e1] at h
    cases hb : (m0.born == s) with
    | true => rw [hb] at h; cases h; exact ⟨m0, rfl, hr⟩
    | false => rw [hb] at h; exact ih h
theorem gives_entry (hs : Sim P φ H w) {i x : LV} {u : Value} (hi : Rel φ i u) (h : entryLV H i = some x) : Gives P φ w (Instr.entry u) x := by
  unfold entryLV at h
  simp only [ob_some] at h
  obtain ⟨it, h1, o, h2, q, h3, m, h4, h5⟩ := h
  have e := asIter_some h3
  subst e
  rw [itrOf_some h1] at hi
  obtain ⟨r, hφ, rfl⟩ := rel_itr hi
  obtain ⟨r', ob', hφ', hheap, hrel⟩ := hs.obj h2 (by simp)
  rw [hφ] at hφ'; cases hφ'
  rw [h4] at hrel
  cases hrel with
  | iter since seen seen' st hm hseen =>
    rename_i mr
    split at h5
    · cases h5
    · rename_i s rest hsn
      simp only [ob_some, ib_some] at h5
      obtain ⟨o', h6, es, h7, h8, e, h9, h10⟩ := h5
      cases h10
      obtain ⟨mr', ms, hφm, hheapm, hrelm⟩ := hs.map h6 h7
      rw [hm] at hφm; cases hφm
      obtain ⟨me, hme, hre⟩ := find_born hrelm h9
      refine ⟨.tuple #[me.key, me.val], ?_, .tup (.cons hre.key (.cons hre.val .nil))⟩
      have hback : seen'.back? = some s := by
        rw [← Array.getLast?_toList, hseen, hsn]; simp
      have hcl := beq_iff.1 h8
      have hf : ms.find? (·.born == s) = some me := by rw [← Array.find?_toList]; exact hme
      simp only [Instr.entry, Sem.run_bind, run_getObj (P := P) hheap (by simp), Result.andThen_ok, hback, run_getMap (P := P) hheapm, hcl]
      simp [hf]
theorem gives_assert {t xt : TypeId} {zero a x : LV} {ok : Bool} {u : Value} {d : TypeDesc} (ht : P.underlying t = some d) (hd : ∀ m, d ≠ .interface m) (hz : zeroOf P t = some zero) (ha : Rel φ a u) (h : assertLV a t zero ok = some x) :
    Gives P φ w (Instr.typeAssert u xt t ok) x := by
  obtain ⟨iz, z, _, _, hzr, hzrun⟩ := zeroOf_some (φ := φ) (w := w) hz
  cases ha with
  | iface tt hv =>
    rename_i lv v
    have h' : ib (Nat.beq tt t) (some (okPair ok lv true)) (ib ok (some (okPair ok zero false)) none) = some x := h
    rw [ib_eq] at h'
    split at h'
    · rename_i he
      have he := beq_iff.1 he
      subst he
      cases h'
      refine ⟨_, ?_, rel_okPair hv true⟩
      cases d <;> first | exact absurd rfl (hd _) | simp [Instr.typeAssert, run_underlying ht]
    · rename_i he
      have he : tt ≠ t := fun e => he (beq_iff.2 e)
      rw [ib_some] at h'
      obtain ⟨rfl, h2⟩ := h'
      cases h2
      refine ⟨_, ?_, rel_okPair hzr false⟩
      cases d <;> first | exact absurd rfl (hd _) | simp [Instr.typeAssert, run_underlying ht, he, hzrun]
  | niliface =>
    have h' : ib ok (some (okPair ok zero false)) none = some x := h
    rw [ib_some] at h'
    obtain ⟨rfl, h2⟩ := h'
    cases h2
    refine ⟨_, ?_, rel_okPair hzr false⟩
    cases d <;> first | exact absurd rfl (hd _) | simp [Instr.typeAssert, run_underlying ht, hzrun]
  | _ => cases h
theorem gives_extract {vs : List LV} {xs : List Value} {i : Nat} {x : LV} (hr : Rels φ vs xs) (h : listGet vs i = some x) : Gives P φ w (Instr.extract (.tuple xs.toArray) i) x := by
  obtain ⟨v, hv, hrv⟩ := hr.get (listGet_some h)
  exact ⟨v, by simp [Instr.extract, hv], hrv⟩
theorem gives_lenStr {t ty : TypeId} {a x : LV} {u : Value} (ht : P.underlying t = some .string) (ha : Rel φ a u) (h : lenStrLV a = some x) : Gives P φ w (Builtin.len_ #[t] ty #[u]) x := by
  cases ha with
  | str l n hn =>
    have h' : some (LV.int .i64 (.ofNat l)) = some x := h
    cases h'
    exact ⟨.int .i64 l, by simp [Builtin.len_, run_underlying ht, goInt], .int _ _⟩
  | sstr hes =>
    rename_i es ns
    have h' : some (LV.int .i64 (.ofNat es.length)) = some x := h
    cases h'
    have hl := hes.length
    have hz : (⟨(ns.map UInt8.ofNat).toArray⟩ : ByteArray).size = es.length := by rw [← hl]; show (ns.map UInt8.ofNat).toArray.size = _; simp
    generalize (⟨(ns.map UInt8.ofNat).toArray⟩ : ByteArray) = s at hz ⊢
    exact ⟨.int .i64 es.length, by simp [Builtin.len_, run_underlying ht, goInt, hz], .int _ _⟩
  | _ => cases h
theorem gives_lenSl {t e ty : TypeId} {a x : LV} {u : Value} (ht : P.underlying t = some (.slice e)) (ha : Rel φ a u) (h : lenSlLV a = some x) : Gives P φ w (Builtin.len_ #[t] ty #[u]) x := by
  cases ha with
  | slice off len sz cap c ad hφ =>
    have h' : some (LV.int .i64 (.ofNat len)) = some x := h
    cases h'
    exact ⟨.int .i64 len, by simp [Builtin.len_, run_underlying ht, goInt], .int _ _⟩
  | nilslice =>
    have h' : some (LV.int .i64 (.ofNat 0)) = some x := h
    cases h'
    exact ⟨.int .i64 (0 : Nat), by simp [Builtin.len_, run_underlying ht, goInt], .int _ _⟩
  | _ => cases h
theorem gives_minmax (mx : Bool) : ∀ {vs : List LV} {us : List Value} {a x : LV} {u : Value}, Rel φ a u → Rels φ vs us → minmaxL mx a vs = some x →
    ∃ v, (us.foldlM (if mx then Builtin.max2 else Builtin.min2) u).run P w = .ok v w ∧ Rel φ x v
  | [], _, a, x, u, ha, .nil, h => by have h' : some a = some x := h; cases h'; exact ⟨u, by simp, ha⟩
  | y :: ys, _, a, x, u, ha, .cons hy hys, h => by
    rename_i v vs
    have h' : (ob (mmX a mx y) fun r => minmaxL mx r ys) = some x := h
    obtain ⟨r, hr, hrest⟩ := ob_some.1 h'
    have hstep : ∃ z, ((if mx then Builtin.max2 else Builtin.min2) u v).run P w = .ok z w ∧ Rel φ r z := by
      cases ha with
      | int k a =>
        have h1 : mmLV y mx k a = some r := hr
        cases hy with
        | int j b =>
          have h2 : some (LV.int k (ib mx (ib (intLe b a) a b) (ib (intLe a b) a b))) = some r := h1
          cases h2
          cases mx
          · refine ⟨_, rfl, ?_⟩
            have e : ib (intLe a b) a b = (if b < a then b else a) := by
              rw [intLe_eq, ib_eq]
              by_cases h3 : a ≤ b
              · rw [if_pos (by simpa using h3), if_neg (by omega)]
              · rw [if_neg (by simpa using h3), if_pos (by omega)]
            show Rel φ (.int k (ib (intLe a b) a b)) _
            rw [e]; exact .int _ _
          · refine ⟨_, rfl, ?_⟩
            have e : ib (intLe b a) a b = (if b > a then b else a) := by
              rw [intLe_eq, ib_eq]
              by_cases h3 : b ≤ a
              · rw [if_pos (by simpa using h3), if_neg (by omega)]
              · rw [if_neg (by simpa using h3), if_pos (by omega)]
            show Rel φ (.int k (ib (intLe b a) a b)) _
            rw [e]; exact .int _ _
        | _ => cases h1
      | _ => cases hr
    obtain ⟨z, hz, hrz⟩ := hstep
    obtain ⟨v', hv', hr'⟩ := gives_minmax mx hrz hys hrest
    exact ⟨v', by simp only [List.foldlM_cons, Sem.run_bind, hz, Result.andThen_ok, hv'], hr'⟩
/-! bytes to a string -/
theorem slCells_some {x : LV} {sz : Nat} {c : Nat × List LV} {v : Value} (hs : Sim P φ H w) (hx : Rel φ x v) (h : slCells x H sz = some c) :
    (v = .slice none 0 0 ∧ c = (0, [])) ∨ ∃ a cap xs, v = .slice (some a) c.1 cap ∧ Rels φ c.2 xs ∧ xs.length = c.1 * sz ∧ (∀ j u, xs[j]? = some u → w.cell? (a.add j) = some u) ∧ (∀ u ∈ xs, u.oneCell' = true) := by
  cases hx with
  | nilslice => have h' : some (0, ([] : List LV)) = some c := h; cases h'; exact .inl ⟨rfl, rfl⟩
  | slice off len sz' cap k a hφ h1 h2 h3 h4 h5 =>
    rename_i b B base lim
    have h' : ib (Nat.beq sz sz') (ob (H.cells b) fun t => ob (getRow t off (Nat.mul len sz)) fun cs => some (len, cs)) none = some c := h
    simp only [ib_some, ob_some] at h'
    obtain ⟨e, t, ht, cs, hcs, hc⟩ := h'
    have e := beq_iff.1 e
    subst e
    cases hc
    obtain ⟨B', base', lim', hφ', hcell⟩ := hs.cells (cells_some ht)
    obtain ⟨rfl, rfl, rfl⟩ := phi_blk hφ hφ'
    obtain ⟨xs, hr, hx, ho, hle, hl⟩ := row_read hcell hcs
    refine .inr ⟨a, k, xs, rfl, hr, hl, fun j u hj => ?_, ho⟩
    rcases h5 with h0 | rfl
    · have : len = 0 := by omega
      subst this
      have : xs.length = 0 := by rw [hl]; exact Nat.zero_mul _
      rw [List.getElem?_eq_none (by omega)] at hj; cases hj
    · rw [addr_add]; exact hx j u hj
  | _ => cases h
theorem byteOf_some {x : LV} {b : Nat} (h : byteOf x = some b) : x = .int .u8 (.ofNat b) := by
  cases x with
  | int k n =>
    have h' : ib (kindEq k .u8) (asNat n) none = some b := h
    rw [ib_some] at h'
    have := kindEq_iff.1 h'.1
    subst this
    cases n with
    | ofNat m => have h2 : some m = some b := h'.2; cases h2; rfl
    | negSucc m => cases h'.2
  | _ => cases h
theorem rowBytes_some : ∀ {cs : List LV} {xs : List Value} {acc n : Nat}, Rels φ cs xs → rowBytes acc cs = some n → ∃ bs : List Nat, xs = bs.map (fun (b : Nat) => Value.int .u8 (b : Int)) ∧ n = byteNum (bs.map UInt8.ofNat) acc
  | [], _, acc, n, .nil, h => by have h' : some acc = some n := h; cases h'; exact ⟨[], rfl, rfl⟩
  | c :: cs, _, acc, n, .cons hx hxs, h => by
    have h' : (ob (byteOf c) fun b => rowBytes (Nat.add (Nat.mul acc 256) (Nat.mod b 256)) cs) = some n := h
    obtain ⟨b, hb, hrest⟩ := ob_some.1 h'
    obtain ⟨bs, hbs, hn⟩ := rowBytes_some hxs hrest
    rw [byteOf_some hb] at hx
    have := rel_int hx
    subst this
    refine ⟨b :: bs, by rw [hbs]; rfl, ?_⟩
    rw [hn]
    show byteNum _ (acc * 256 + b % 256) = byteNum _ (acc * 256 + (UInt8.ofNat b).toNat)
    rw [UInt8.toNat_ofNat']
theorem foldl_push (bs : List Nat) (r : ByteArray) : (bs.map fun (b : Nat) => (b : Int)).foldl (fun r n => r.push (UInt8.ofNat n.toNat)) r = ⟨(r.data.toList ++ bs.map UInt8.ofNat).toArray⟩ := by
  induction bs generalizing r with
  | nil => simp
  | cons b bs ih =>
    simp only [List.map_cons, List.foldl_cons, ih]
    simp
theorem foldl_pushI (bs : List Int) (r : ByteArray) : bs.foldl (fun r n => r.push (UInt8.ofNat n.toNat)) r = ⟨(r.data.toList ++ bs.map fun n => UInt8.ofNat n.toNat).toArray⟩ := by
  induction bs generalizing r with
  | nil => simp
  | cons b bs ih =>
    simp only [List.map_cons, List.foldl_cons, ih]
    simp
theorem byteSE_some {x : LV} {e : SE} {v : Value} (hx : Rel φ x v) (h : byteSE x = some e) : ∃ (n : Int) (b : Nat), v = .int .u8 n ∧ e.ev φ = some (b : Int) ∧ b < 256 ∧ UInt8.ofNat n.toNat = UInt8.ofNat b := by
  cases hx with
  | int k n =>
    have h' : ib (kindEq k .u8) (some (SE.c (.ofNat (Nat.mod (intNat n) 256)))) none = some e := h
    rw [ib_some] at h'
    have := kindEq_iff.1 h'.1
    subst this
    cases h'.2
    have e1 : intNat n = n.toNat := by cases n <;> rfl
    refine ⟨n, n.toNat % 256, rfl, by rw [e1]; rfl, Nat.mod_lt _ (by decide), ?_⟩
    apply UInt8.toNat_inj.1
    simp
  | sint k he h1 =>
    rename_i e' n
    have h' : ib (kindEq k .u8) (some e') none = some e := h
    rw [ib_some] at h'
    have := kindEq_iff.1 h'.1
    subst this
    cases h'.2
    rw [wrap_fix] at h1
    have h2 : 0 ≤ n := h1.1
    have h3 : n ≤ 255 := h1.2
    exact ⟨n, n.toNat, rfl, by rw [Int.toNat_of_nonneg h2]; exact he, by omega, rfl⟩
  | _ => cases h
theorem rowSE_some : ∀ {cs : List LV} {xs : List Value} {es : List SE}, Rels φ cs xs → rowSE cs = some es → ∃ (ns : List Int) (bs : List Nat), xs = ns.map (Value.int .u8) ∧ EvBs φ es bs ∧ (ns.map fun n => UInt8.ofNat n.toNat) = bs.map UInt8.ofNat
  | [], _, es, .nil, h => by have h' : some [] = some es := h; cases h'; exact ⟨[], [], rfl, .nil, rfl⟩
  | c :: cs, _, es, .cons hx hxs, h => by
    have h' : (ob (byteSE c) fun e => ob (rowSE cs) fun es => some (e :: es)) = some es := h
    simp only [ob_some] at h'
    obtain ⟨e, he, es', hes, hh⟩ := h'
    cases hh
    obtain ⟨n, b, rfl, h1, h2, h3⟩ := byteSE_some hx he
    obtain ⟨ns, bs, rfl, h4, h5⟩ := rowSE_some hxs hes
    exact ⟨n :: ns, b :: bs, rfl, .cons h1 h2 h4, by simp [h3, h5]⟩
theorem gives_bytesToStr (hs : Sim P φ H w) {src dst e : TypeId} (h1 : P.underlying src = some (.slice e)) (h2 : P.underlying e = some (.int .u8)) (h3 : P.underlying dst = some .string) {a x : LV} {u : Value} (ha : Rel φ a u) (h : bytesToStrLV a H = some x) :
    Gives P φ w (convert src dst u) x := by
  unfold bytesToStrLV at h
  obtain ⟨c, hc, h⟩ := ob_some.1 h
  cases hn : rowBytes 0 c.2 with
  | none =>
  rw [hn] at h
  obtain ⟨es, hes, hx⟩ := ob_some.1 (show (ob (rowSE c.2) fun es => some (.sstr es)) = some x from h)
  cases hx
  rcases slCells_some hs ha hc with ⟨rfl, rfl⟩ | ⟨ad, cap, xs, rfl, hr, hl, hcell, hone⟩
  · cases hn
  · obtain ⟨ns, bs, rfl, he, hb⟩ := rowSE_some hr hes
    have hlen : ns.length = c.1 := by simpa using hl
    have hld := run_loadCells_list (P := P) w ad _ hcell
    rw [List.length_map, hlen] at hld
    have hrun := run_bytesToString (P := P) w ad c.1 cap _ hld
    rw [foldl_pushI, hb] at hrun
    refine ⟨.string ⟨(ByteArray.empty.data.toList ++ bs.map UInt8.ofNat).toArray⟩, ?_, ?_⟩
    · simp only [convert, Sem.run_bind, run_underlying h1, run_underlying h3, run_underlying h2, Result.andThen_ok]
      exact hrun
    · exact .sstr he
  | some n =>
  rw [hn] at h
  have hx : some (LV.str c.1 n) = some x := h
  cases hx
  rcases slCells_some hs ha hc with ⟨rfl, rfl⟩ | ⟨ad, cap, xs, rfl, hr, hl, hcell, hone⟩
  · have h' : some 0 = some n := hn
    cases h'
    refine ⟨.string .empty, ?_, ?_⟩
    · simp [convert, run_underlying h1, run_underlying h3, run_underlying h2, Conv.bytesToString]
    · exact .str 0 0 (by decide)
  · obtain ⟨bs, rfl, hb⟩ := rowBytes_some hr hn
    have hlen : bs.length = c.1 := by simpa using hl
    have hld := run_loadCells_list (P := P) w ad _ hcell
    rw [List.length_map, hlen] at hld
    have hmap : (bs.map fun (b : Nat) => Value.int .u8 (b : Int)) = (bs.map fun (b : Nat) => (b : Int)).map (Value.int .u8) := by simp
    rw [hmap] at hld
    have hrun := run_bytesToString (P := P) w ad c.1 cap _ hld
    rw [foldl_push] at hrun
    refine ⟨.string ⟨(ByteArray.empty.data.toList ++ bs.map UInt8.ofNat).toArray⟩, ?_, ?_⟩
    · simp only [convert, Sem.run_bind, run_underlying h1, run_underlying h3, run_underlying h2, Result.andThen_ok]
      exact hrun
    · have e : (⟨(ByteArray.empty.data.toList ++ bs.map UInt8.ofNat).toArray⟩ : ByteArray) = bytesOf c.1 n := by
        unfold bytesOf
        rw [hb, ← hlen]
        have := bytesL_byteNum (bs.map UInt8.ofNat)
        rw [List.length_map] at this
        rw [this]; simp
      rw [e]
      refine .str _ _ ?_
      rw [hb, ← hlen]
      have := byteNum_lt' (bs.map UInt8.ofNat)
      rwa [List.length_map] at this
end
end Go.LX

/- LX, part 13: every operation that changes no memory. -/
namespace Go.LX
section
variable {P : Program} {φ : Phi} {H : Heap} {w : World}

theorem Act.dummy : True := trivial
theorem unary_xor {k : IntKind} {m : Nat} (hsg' : k.signed = false) (hle : m ≤ limK k) : (Op.unary .xor (.int k (.ofNat m))).run P w = .ok (.int k (.ofNat (limK k - m))) w := by
  have hmax : k.max = .ofNat (limK k) := by cases k <;> simp [IntKind.signed] at hsg' <;> decide
  show (Op.intBits .xor k (if k.signed then -1 else k.max) (.ofNat m)).run P w = _
  rw [hsg', if_neg (by simp), hmax, intBits_xor' (Nat.le_refl _) hle]
  have e : Nat.xor (limK k) m = limK k - m := by
    have hp : limK k = 2 ^ k.bits - 1 := by cases k <;> simp [IntKind.signed] at hsg' <;> decide
    rw [hp] at hle ⊢
    show (2 ^ k.bits - 1) ^^^ m = _
    have h1 : m < 2 ^ k.bits := by have := Nat.two_pow_pos k.bits; omega
    have h2 := BitVec.toNat_not (x := BitVec.ofNat k.bits m)
    rw [BitVec.toNat_ofNat, Nat.mod_eq_of_lt h1] at h2
    rw [← h2, BitVec.not_def, BitVec.toNat_xor, BitVec.toNat_allOnes, BitVec.toNat_ofNat, Nat.mod_eq_of_lt h1]
  rw [e]; rfl
theorem gives_un {op : UnOp} {a x : LV} {u : Value} (ha : Rel φ a u) (h : unLV op a = some x) : Gives P φ w (Op.unary op u) x := by
  cases ha with
  | bool b => cases op <;> simp [unLV] at h; subst h; exact ⟨_, rfl, .bool _⟩
  | int k n =>
    cases op with
    | not => simp [unLV] at h
    | neg =>
      simp only [unLV, Option.some.injEq] at h
      subst h
      exact ⟨_, rfl, .int _ _⟩
    | plus => simp [unLV] at h
    | xor =>
      cases n with
      | negSucc m => simp [unLV] at h
      | ofNat m =>
        simp only [unLV] at h
        split at h
        · cases h
        · rename_i hsg
          split at h
          · rename_i hle
            cases h
            have hsg' : k.signed = false := by simpa using hsg
            exact ⟨_, unary_xor hsg' hle, .int _ _⟩
          · cases h
  | sbool b he =>
    cases op <;> simp [unLV] at h
    subst h
    exact ⟨_, rfl, rel_mkB (ev_ntSE he)⟩
  | sint k he h1 =>
    rename_i e n
    cases op with
    | not => simp [unLV] at h
    | plus => simp [unLV] at h
    | neg =>
      simp only [unLV, Option.some.injEq] at h
      subst h
      exact ⟨_, rfl, .sint _ (by simp only [SE.ev, he, Option.bind_some, unI]) (wrap_wrap _ _)⟩
    | xor =>
      simp only [unLV] at h
      split at h
      · cases h
      · rename_i hsg
        cases h
        have hsg' : k.signed = false := by simpa using hsg
        have hr := wrap_fix.1 h1
        have hlo : lowK k = 0 := by unfold lowK; rw [hsg']; rfl
        rw [hlo] at hr
        obtain ⟨m, rfl⟩ : ∃ m : Nat, n = (m : Int) := ⟨n.toNat, by omega⟩
        have hle : m ≤ limK k := by omega
        have e1 : Int.ofNat (limK k - m) = (limK k : Int) - (m : Int) := by show ((limK k - m : Nat) : Int) = _; omega
        refine ⟨_, unary_xor hsg' hle, ?_⟩
        rw [e1]
        exact .sint _ (by simp only [SE.ev, he, Option.bind_some, unI]; rw [if_pos ⟨hsg', by omega, by omega⟩]) (wrap_fix.2 ⟨by rw [hlo]; omega, by omega⟩)
  | _ => cases op <;> simp [unLV] at h
theorem gives_convInt {s d : TypeId} {j k : IntKind} (h1 : P.underlying s = some (.int j)) (h2 : P.underlying d = some (.int k)) {a x : LV} {u : Value} (ha : Rel φ a u) (h : convIntLV a k = some x) : Gives P φ w (convert s d u) x := by
  cases ha with
  | int jj n =>
    refine ⟨.int k (k.wrap n), by simp [convert, run_underlying h1, run_underlying h2, Conv.intToInt], ?_⟩
    cases n with
    | ofNat m => have h' : some (mkN k m) = some x := h; cases h'; rw [mkN_eq]; exact .int _ _
    | negSucc m => have h' : some (LV.int k (k.wrap (.negSucc m))) = some x := h; cases h'; exact .int _ _
  | sint jj he h1' =>
    rename_i e n
    have h' : some (LV.sint k (ib (kSub jj k) e (.cv k e))) = some x := h
    cases h'
    refine ⟨.int k (k.wrap n), by simp [convert, run_underlying h1, run_underlying h2, Conv.intToInt], ?_⟩
    cases hs : kSub jj k with
    | true => refine .sint _ ?_ (wrap_wrap _ _); rw [ib_true, kSub_wrap hs h1']; exact he
    | false => exact .sint _ (by simp only [ib_false, SE.ev, he, Option.map_some]) (wrap_wrap _ _)
  | _ => cases h
/-! a struct or an array, of its parts -/
theorem listSet_get : ∀ {l : List LV} {i j : Nat} {v : LV}, (listSet l i v)[j]? = if j = i ∧ j < l.length then some v else l[j]?
  | [], i, j, v => by simp [listSet]
  | x :: xs, 0, 0, v => by simp [listSet]
  | x :: xs, 0, j+1, v => by simp [listSet]
  | x :: xs, i+1, 0, v => by simp [listSet]
  | x :: xs, i+1, j+1, v => by simp only [listSet, List.getElem?_cons_succ, listSet_get, List.length_cons]; simp
theorem listSet_len : ∀ {l : List LV} {i : Nat} {v : LV}, (listSet l i v).length = l.length
  | [], i, v => rfl
  | x :: xs, 0, v => rfl
  | x :: xs, i+1, v => by simp [listSet, listSet_len]
theorem rels_set {xs : List LV} {vs : List Value} (h : Rels φ xs vs) {i : Nat} {x : LV} {v : Value} (hx : Rel φ x v) : Rels φ (listSet xs i x) (vs.toArray.setIfInBounds i v).toList := by
  refine Rels.of_get (by simp [listSet_len, h.length]) fun j y hj => ?_
  rw [listSet_get] at hj
  simp only [Array.toList_setIfInBounds]
  by_cases hc : j = i ∧ j < xs.length
  · rw [if_pos hc] at hj
    cases hj
    refine ⟨v, ?_, hx⟩
    rw [hc.1, List.getElem?_set_self (by rw [h.length, ← hc.1]; exact hc.2)]
  · rw [if_neg hc] at hj
    obtain ⟨u, hu, hr⟩ := h.get hj
    refine ⟨u, ?_, hr⟩
    have hlt : j < xs.length := (List.getElem?_eq_some_iff.1 hj).1
    rw [List.getElem?_set_ne (fun e => hc ⟨e.symm, hlt⟩)]; exact hu
theorem overlay_sound : ∀ {cs : List LV} {us : List Value} (j0 : Nat) {off : Nat} {zero : List LV} {zs : Array Value}, Rels φ zero zs.toList → Rels φ cs us →
    Rels φ (overlay zero (off + j0) cs) ((us.zipIdx j0).foldl (fun cs (c, j) => cs.setIfInBounds (off + j) c) zs).toList
  | [], _, j0, off, zero, zs, hz, .nil => hz
  | c :: cs, _, j0, off, zero, zs, hz, .cons hc hcs => by
    rename_i u us
    have h1 := rels_set hz (i := off + j0) hc
    have h2 := overlay_sound (j0 + 1) (off := off) (zs := (zs.setIfInBounds (off + j0) u)) (by simpa using h1) hcs
    simpa [overlay, List.zipIdx_cons, Nat.add_assoc] using h2
theorem cellsOf_sound {x : LV} {v : Value} (h : Rel φ x v) : Rels φ (cellsOf x) v.cells.toList := by
  cases h <;> first
    | exact .cons (.bool _) .nil
    | exact .cons (.int _ _) .nil
    | exact .cons (.sint _ ‹_› ‹_›) .nil
    | exact .cons (.sbool _ ‹_›) .nil
    | exact .cons (.sstr ‹_›) .nil
    | exact .cons (.str _ _ ‹_›) .nil
    | exact .cons (.ptr _ ‹_›) .nil
    | exact .cons .nilptr .nil
    | exact .cons (.slice _ _ _ _ _ _ ‹_› ‹_› ‹_› ‹_› ‹_› ‹_›) .nil
    | exact .cons .nilslice .nil
    | exact .cons (.map ‹_›) .nil
    | exact .cons .nilmap .nil
    | exact .cons (.func _ ‹_›) .nil
    | exact .cons (.mfunc _ ‹_› ‹_›) .nil
    | exact .cons (.yld ‹_›) .nil
    | exact .cons .nilfunc .nil
    | exact .cons (.iface _ ‹_›) .nil
    | exact .cons .niliface .nil
    | exact ‹Rels φ _ _›
    | exact .cons (.tup ‹_›) .nil
    | exact .cons (.itr ‹_›) .nil
    | skip
  case opq p h h1 =>
    have : v.cells = #[v] := by cases v <;> first | rfl | (simp [Value.oneCell'] at h1)
    rw [this]; exact .cons (.opq h h1) .nil
theorem fill_sound {nt : Nat} {T : Trie LV} {ρ : Operand → Value} {zs : List Operand} (hop : OpdOk φ nt T ρ zs) {place : Nat → Option (Nat × Nat)} : ∀ {ps : List (Nat × Operand)} {lps : List (Nat × Nat × LOpd)} {zero cs : List LV} {cells : Array Value},
    (∀ p ∈ ps, p.2 ∈ zs) → partsOf nt place ps = some lps → fillParts T zero lps = some cs → Rels φ zero cells.toList → ∃ r, Instr.fill place cells (ps.map fun (i, x) => (i, ρ x)) = some r ∧ Rels φ cs r.toList
  | [], lps, zero, cs, cells, _, h1, h2, hz => by
    simp only [partsOf, Option.some.injEq] at h1
    subst h1
    have h2' : some zero = some cs := h2
    cases h2'
    exact ⟨cells, rfl, hz⟩
  | (i, x) :: ps, lps, zero, cs, cells, hsub, h1, h2, hz => by
    simp only [partsOf] at h1
    split at h1
    · rename_i off sz y ys hpl hy hys
      cases h1
      have h2' : (ob (getO y T) fun v => ib (Nat.beq (cellsOf v).length sz) (ib (Nat.ble (off + sz) zero.length) (fillParts T (overlay zero off (cellsOf v)) ys) none) none) = some cs := h2
      obtain ⟨v, hv, h3⟩ := ob_some.1 h2'
      rw [ib_some, ib_some] at h3
      obtain ⟨h4, h5, h6⟩ := h3
      have h4 := beq_iff.1 h4
      have h5 := ble_iff.1 h5
      have hr := hop.one (hsub (i, x) (by simp)) hy hv
      have hc := cellsOf_sound hr
      have hlen : (ρ x).cells.size = sz := by rw [← Array.length_toList, hc.length, h4]
      have hov := overlay_sound 0 (off := off) hz hc
      rw [Nat.add_zero] at hov
      obtain ⟨r, hr1, hr2⟩ := fill_sound hop (ps := ps) (fun p hp => hsub p (by simp [hp])) hys h6 hov
      refine ⟨r, ?_, hr2⟩
      have hsz : cells.size = zero.length := by rw [← Array.length_toList, hz.length]
      have hcond : ((ρ x).cells.size ≠ sz || decide (off + (ρ x).cells.size > cells.size)) = false := by
        rw [hlen, hsz]; simp; omega
      simp only [List.map_cons, Instr.fill, hpl, hcond, Bool.false_eq_true, if_false]
      rw [← hr1]
      congr 1
      rw [← Array.foldl_toList, Array.toList_zipIdx]
    · cases h1
theorem gives_build {F : Facts} {nt : Nat} {T : Trie LV} {ρ : Operand → Value} {t : TypeId} {ps : Array (Nat × Operand)} {po : POp} {x : LV} (hc : compBuild P nt t ps.toList = some (.p po)) (hop : OpdOk φ nt T ρ (ps.toList.map (·.2))) (h : pureOp F po T H = some x) :
    Gives P φ w (Instr.build t (ps.map fun (i, x) => (i, ρ x))) x := by
  have hmem : ∀ p ∈ ps.toList, p.2 ∈ ps.toList.map (·.2) := fun p hp => List.mem_map_of_mem hp
  unfold compBuild at hc
  split at hc
  · rename_i fs z hd hz
    split at hc
    · rename_i places hpl
      simp only [Option.map_eq_some_iff] at hc
      obtain ⟨lps, hlps, e⟩ := hc
      cases e
      have h' : (ob (fillParts T z lps) fun cs => some (.agg cs)) = some x := h
      obtain ⟨cs, hcs, hx⟩ := ob_some.1 h'
      cases hx
      obtain ⟨iz, zv, hi, hzv, hzr, _⟩ := zeroOf_some (φ := φ) (w := w) hz
      obtain ⟨zs, rfl, hzs⟩ := rel_agg hzr
      obtain ⟨r, hr1, hr2⟩ := fill_sound hop (cells := zs.toArray) hmem hlps hcs (by simpa using hzs)
      refine ⟨.agg r, ?_, by have := Rel.agg hr2; simpa using this⟩
      refine run_build w t _ r ?_
      simp only [Program.built, hi, hd, hzv, hpl, Array.toList_map]
      exact hr1
    · cases hc
  · rename_i n e z hd hz
    split at hc
    · rename_i sz hsz
      simp only [Option.map_eq_some_iff] at hc
      obtain ⟨lps, hlps, e'⟩ := hc
      cases e'
      have h' : (ob (fillParts T z lps) fun cs => some (.agg cs)) = some x := h
      obtain ⟨cs, hcs, hx⟩ := ob_some.1 h'
      cases hx
      obtain ⟨iz, zv, hi, hzv, hzr, _⟩ := zeroOf_some (φ := φ) (w := w) hz
      obtain ⟨zs, rfl, hzs⟩ := rel_agg hzr
      simp only [szOf, Option.map_eq_some_iff] at hsz
      obtain ⟨ie, hie, rfl⟩ := hsz
      obtain ⟨r, hr1, hr2⟩ := fill_sound hop (cells := zs.toArray) hmem hlps hcs (by simpa using hzs)
      refine ⟨.agg r, ?_, by have := Rel.agg hr2; simpa using this⟩
      refine run_build w t _ r ?_
      simp only [Program.built, hi, hd, hzv, hie, Array.toList_map]
      exact hr1
    · cases hc
  · cases hc
end
end Go.LX

/- LX, part 14: all operations that change no memory. -/
namespace Go.LX
section
variable {P : Program} {φ : Phi} {H : Heap} {w : World}

theorem p1_some {nt : Nat} {f : LOpd → POp} {x : Operand} {l : LOp} (h : p1 nt f x = some l) : ∃ y, opd nt x = some y ∧ l = .p (f y) := by
  unfold p1 at h; simp only [Option.map_eq_some_iff] at h; obtain ⟨y, hy, e⟩ := h; exact ⟨y, hy, e.symm⟩
theorem p2_some {nt : Nat} {f : LOpd → LOpd → POp} {x y : Operand} {l : LOp} (h : p2 nt f x y = some l) : ∃ a b, opd nt x = some a ∧ opd nt y = some b ∧ l = .p (f a b) := by
  unfold p2 at h; split at h
  · cases h; exact ⟨_, _, ‹_›, ‹_›, rfl⟩
  · cases h
theorem m1_some {nt : Nat} {f : LOpd → MOp} {x : Operand} {l : LOp} (h : m1 nt f x = some l) : ∃ y, opd nt x = some y ∧ l = .m (f y) := by
  unfold m1 at h; simp only [Option.map_eq_some_iff] at h; obtain ⟨y, hy, e⟩ := h; exact ⟨y, hy, e.symm⟩
theorem m2_some {nt : Nat} {f : LOpd → LOpd → MOp} {x y : Operand} {l : LOp} (h : m2 nt f x y = some l) : ∃ a b, opd nt x = some a ∧ opd nt y = some b ∧ l = .m (f a b) := by
  unfold m2 at h; split at h
  · cases h; exact ⟨_, _, ‹_›, ‹_›, rfl⟩
  · cases h
theorem m3_some {nt : Nat} {f : LOpd → LOpd → LOpd → MOp} {x y z : Operand} {l : LOp} (h : m3 nt f x y z = some l) : ∃ a b c, opd nt x = some a ∧ opd nt y = some b ∧ opd nt z = some c ∧ l = .m (f a b c) := by
  unfold m3 at h; split at h
  · cases h; exact ⟨_, _, _, ‹_›, ‹_›, ‹_›, rfl⟩
  · cases h
theorem not_p1 {nt : Nat} {f : LOpd → MOp} {x : Operand} {po : POp} (h : m1 nt f x = some (.p po)) : False := by obtain ⟨_, _, e⟩ := m1_some h; cases e
theorem not_p2 {nt : Nat} {f : LOpd → LOpd → MOp} {x y : Operand} {po : POp} (h : m2 nt f x y = some (.p po)) : False := by obtain ⟨_, _, _, _, e⟩ := m2_some h; cases e
theorem not_p3 {nt : Nat} {f : LOpd → LOpd → LOpd → MOp} {x y z : Operand} {po : POp} (h : m3 nt f x y z = some (.p po)) : False := by obtain ⟨_, _, _, _, _, _, e⟩ := m3_some h; cases e

/-- of what is asked of a pure operation -/
def PureOk (P : Program) (φ : Phi) (w : World) (ρ : Operand → Value) (o : Oper) (x : LV) : Prop := ∃ v, (execOp ρ o).run P w = .ok (.value v) w ∧ Rel φ x v
theorem PureOk.of {ρ : Operand → Value} {o : Oper} {x : LV} {s : Sem Value} (h : Gives P φ w s x) (he : execOp ρ o = do pure (.value (← s))) : PureOk P φ w ρ o x := by
  obtain ⟨v, hv, hr⟩ := h
  exact ⟨v, by rw [he]; simp [hv], hr⟩

section
variable {F : Facts} {nt : Nat} {T : Trie LV} {ρ : Operand → Value} {o : Oper} {po : POp} {x : LV}

theorem ps_bin {op : BinOp} {t yt : TypeId} {a b : Operand} (ho : o.op = .binOp op t a b yt) (hc : compBin P nt op t a b = some (.p po)) (hop : OpdOk φ nt T ρ [a, b]) (hF : FactsOk φ F) (h : pureOp F po T H = some x) : PureOk P φ w ρ o x := by
  have he : execOp ρ o = (do pure (.value (← (do eqGuard op t a b (ρ a) (ρ b); binOp op t (ρ a) (ρ b))))) := by unfold execOp; simp only [ho]
  have two : ∀ {f : LOpd → LOpd → POp}, p2 nt f a b = some (.p po) → ∃ la lb, po = f la lb ∧ (∀ u, getO la T = some u → Rel φ u (ρ a)) ∧ (∀ u, getO lb T = some u → Rel φ u (ρ b)) := by
    intro f hf
    obtain ⟨la, lb, h1, h2, e⟩ := p2_some hf
    cases e
    exact ⟨la, lb, rfl, fun u hu => hop.one (by simp) h1 hu, fun u hu => hop.one (by simp) h2 hu⟩
  have fin : ∀ {v : Value}, (eqGuard op t a b (ρ a) (ρ b)).run P w = .ok () w → (binOp op t (ρ a) (ρ b)).run P w = .ok v w → Rel φ x v → PureOk P φ w ρ o x := by
    intro v hg hb hr
    refine PureOk.of (s := do eqGuard op t a b (ρ a) (ρ b); binOp op t (ρ a) (ρ b)) ⟨v, ?_, hr⟩ he
    simp [hg, hb]
  have num : p2 nt (.bin op) a b = some (.p po) → PureOk P φ w ρ o x := by
    intro hf
    obtain ⟨la, lb, rfl, ha, hb⟩ := two hf
    have h' : (ob (getO la T) fun u => ob (getO lb T) fun v => binLV u F op v) = some x := h
    simp only [ob_some] at h'
    obtain ⟨u, hu, v, hv, hx⟩ := h'
    obtain ⟨z, hz, hr⟩ := gives_bin (P := P) (w := w) (t := t) hF (ha u hu) (hb v hv) hx
    exact fin (eqGuard_int (ha u hu) (hb v hv) hx) hz hr
  have nil : ∀ {neg : Bool} {kd : Nat} {d : TypeDesc}, op = eqOp neg → P.underlying t = some d → KindD kd d → (kd = 4 → isConst a = true ∨ isConst b = true) → p2 nt (.eqNil neg kd) a b = some (.p po) → PureOk P φ w ρ o x := by
    intro neg kd d hop' hd hk hcst hf
    obtain ⟨la, lb, rfl, ha, hb⟩ := two hf
    have h' : (ob (getO la T) fun u => ob (getO lb T) fun v => ob (eqNilLV kd u v) fun r => negB neg r) = some x := h
    simp only [ob_some] at h'
    obtain ⟨u, hu, v, hv, r, hr, hx⟩ := h'
    have hx' : some (LV.bool (bxor neg r)) = some x := hx
    cases hx'
    obtain ⟨p, q, hp, hq, _⟩ := eqNil_some hr (ha u hu) (hb v hv)
    subst hop'
    exact fin (guard_eqNil hp hq hcst) (gives_eqNil hd hk (ha u hu) (hb v hv) hr) (.bool _)
  unfold compBin at hc
  split at hc
  · exact num hc
  · exact num hc
  · rename_i _ neg hneg hd
    have := isEq_some hneg
    obtain ⟨la, lb, rfl, ha, hb⟩ := two hc
    have h' : (ob (getO la T) fun u => ob (getO lb T) fun v => ob (boolSE u) fun a => ob (boolSE v) fun b => some (eqBLV neg a b)) = some x := h
    simp only [ob_some] at h'
    obtain ⟨u, hu, v, hv, p, hp, r, hr, hx⟩ := h'
    cases hx
    obtain ⟨p', e1, h1⟩ := boolSE_some (ha u hu) hp
    obtain ⟨q', e2, h2⟩ := boolSE_some (hb v hv) hr
    refine fin (v := .bool (bxor neg (bnot (bxor p' q')))) ?_ ?_ (eqBLV_rel neg h1 h2)
    · rw [e1, eqGuard_at_bool]; rfl
    · rw [e1, e2, this]; exact gives_eqB hd
  · rename_i hneg hd; exact nil (kd := 0) (isEq_some hneg) hd ⟨_, rfl⟩ (fun e => by cases e) hc
  · rename_i hneg hd; exact nil (kd := 1) (isEq_some hneg) hd ⟨_, rfl⟩ (fun e => by cases e) hc
  · rename_i hneg hd; exact nil (kd := 2) (isEq_some hneg) hd ⟨_, _, rfl⟩ (fun e => by cases e) hc
  · rename_i hneg hd; exact nil (kd := 3) (isEq_some hneg) hd ⟨_, _, _, rfl⟩ (fun e => by cases e) hc
  · rename_i hneg hd
    split at hc
    · rename_i hcst; exact nil (kd := 4) (isEq_some hneg) hd ⟨_, rfl⟩ (fun _ => by simpa using hcst) hc
    · cases hc
  · rename_i _ neg _ hneg hd
    split at hc
    · rename_i fs hfl
      have := isEq_some hneg
      obtain ⟨la, lb, rfl, ha, hb⟩ := two hc
      have h' : (ob (getO la T) fun u => ob (getO lb T) fun v => ob (aggOf u) fun xs => ob (aggOf v) fun ys => ib (shapesB xs fs) (ob (eqAtoms xs ys) fun r => negB neg r) none) = some x := h
      simp only [ob_some, ib_some] at h'
      obtain ⟨u, hu, v, hv, xs, hxs, ys, hys, hsh, r, hr, hx⟩ := h'
      have hx' : some (LV.bool (bxor neg r)) = some x := hx
      cases hx'
      rw [aggOf_some hxs] at hu
      rw [aggOf_some hys] at hv
      obtain ⟨us, e1, h1⟩ := rel_agg (ha _ hu)
      obtain ⟨vs, e2, h2⟩ := rel_agg (hb _ hv)
      refine fin (v := .bool (bxor neg r)) ?_ ?_ (.bool _)
      · rw [e1, e2]; exact guard_eqFlat hfl
      · rw [e1, e2, this]; exact gives_eqFlat hfl hsh h1 h2 hr
    · cases hc
  · cases hc
theorem ps_sliceArr {t : TypeId} {a : Operand} {lo hi : Option Operand} {la : LOpd} {llo lhi : Option LOpd} {n sz : Nat} {e : TypeId} (h1 : opd nt a = some la) (h2 : opdO nt lo = some llo) (h3 : opdO nt hi = some lhi)
    (ht : P.underlying t = some (.array n e) ∨ ∃ a, P.underlying t = some (.pointer a) ∧ P.underlying a = some (.array n e)) (hsz : szOf P e = some sz) (h : pureOp F (.sliceArr n sz la llo lhi) T H = some x)
    (hop : OpdOk φ nt T ρ ([a] ++ lo.toList ++ hi.toList)) (hs : Sim P φ H w) : Gives P φ w (Instr.sliceAt t (ρ a) (lo.map ρ) (hi.map ρ) none) x := by
  have h' : (ob (getO la T) fun a => ib (Nat.ble n maxCells) (ob (loadRow a H (Nat.succ (Nat.pred (Nat.mul n sz)))) fun _ => sliceArrLV a T n sz llo lhi) none) = some x := h
  simp only [ob_some, ib_some] at h'
  obtain ⟨u, hu, hmax, cs, hcs, hx⟩ := h'
  have hr := hop.one (by simp) h1 hu
  obtain ⟨b, off, tr, rfl, hb, hg⟩ := loadRow_some hcs
  have hx' : (ob (sbound T lhi n) fun h => ob (sbound T llo 0) fun l => ib (Nat.ble l h) (ib (Nat.ble h n) (some (.slice b (Nat.add off (Nat.mul l sz)) (Nat.sub h l) sz (Nat.succ (Nat.sub n l)))) none) none) = some x := hx
  simp only [ob_some, ib_some] at hx'
  obtain ⟨hh, hbb, l, hl, h4, h5, h6⟩ := hx'
  cases h6
  obtain ⟨B, base, lim, hφ, e⟩ := rel_ptr hr
  obtain ⟨B', base', lim', hφ', hc⟩ := hs.cells hb
  obtain ⟨rfl, rfl, rfl⟩ := phi_blk hφ hφ'
  obtain ⟨_, _, _, _, hle, _⟩ := row_read hc hg
  rw [e]
  have hmul : Nat.mul n sz = n * sz := rfl
  have hmx : n ≤ maxCells := ble_iff.1 hmax
  refine gives_sliceArr ht hsz hφ ?_ (Nat.le_trans hmx (by decide)) (sbound_sound hop (fun y hy => by simp [hy]) h2 hl) (sbound_sound hop (fun y hy => by simp [hy]) h3 hbb) (ble_iff.1 h4) (ble_iff.1 h5)
  rcases hle with h0 | h0
  · omega
  · rw [hmul] at h0
    rcases Nat.eq_zero_or_pos (n * sz) with hz | hz
    · rw [hz] at h0 ⊢; simp at h0; omega
    · have : Nat.succ (Nat.pred (n * sz)) = n * sz := Nat.succ_pred_eq_of_pos hz
      omega
theorem ps_slice {t : TypeId} {a : Operand} {lo hi : Option Operand} (ho : o.op = .slice t a lo hi none) (hc : compSlice P nt t a lo hi = some (.p po)) (hop : OpdOk φ nt T ρ ([a] ++ lo.toList ++ hi.toList)) (hs : Sim P φ H w) (h : pureOp F po T H = some x) : PureOk P φ w ρ o x := by
  have he : execOp ρ o = (do pure (.value (← Instr.sliceAt t (ρ a) (lo.map ρ) (hi.map ρ) none))) := by unfold execOp; simp only [ho]; rfl
  refine PureOk.of ?_ he
  unfold compSlice at hc
  split at hc
  · rename_i la llo lhi h1 h2 h3 ht
    cases hc
    have h' : (ob (getO la T) fun a => sliceStrLV a T llo lhi) = some x := h
    obtain ⟨u, hu, hx⟩ := ob_some.1 h'
    have hr := hop.one (by simp) h1 hu
    cases u with
    | str len n =>
      have hx' : (ob (sbound T lhi len) fun h => ob (sbound T llo 0) fun l => ib (Nat.ble l h) (ib (Nat.ble h len) (some (.str (Nat.sub h l) (strSub len n l h))) none) none) = some x := hx
      simp only [ob_some, ib_some] at hx'
      obtain ⟨hh, hb, l, hl, h4, h5, h6⟩ := hx'
      cases h6
      obtain ⟨hn, e⟩ := rel_str hr
      rw [e]
      exact ⟨_, gives_sliceStr ht hn (sbound_sound hop (fun y hy => by simp [hy]) h2 hl) (sbound_sound hop (fun y hy => by simp [hy]) h3 hb) (ble_iff.1 h4) (ble_iff.1 h5), .str _ _ (strSub_lt _ _ _ _)⟩
    | _ => cases hx
  · rename_i la llo lhi e h1 h2 h3 ht
    simp only [Option.map_eq_some_iff] at hc
    obtain ⟨sz, hsz, e'⟩ := hc
    cases e'
    have h' : (ob (getO la T) fun a => sliceSlLV a T sz llo lhi) = some x := h
    obtain ⟨u, hu, hx⟩ := ob_some.1 h'
    have hr := hop.one (by simp) h1 hu
    cases u with
    | slice b off len sz' cap =>
      have hx' : (ob (sbound T lhi len) fun h => ob (sbound T llo 0) fun l => ib (Nat.ble l h) (ib (capOk cap len h) (ib (Nat.beq sz sz') (some (.slice b (Nat.add off (Nat.mul l sz)) (Nat.sub h l) sz (capSub cap l))) none) none) none) = some x := hx
      simp only [ob_some, ib_some] at hx'
      obtain ⟨hh, hb, l, hl, h4, h5, h6, h7⟩ := hx'
      have := beq_iff.1 h6
      subst this
      cases h7
      exact gives_sliceSl ht hsz hr (sbound_sound hop (fun y hy => by simp [hy]) h2 hl) (sbound_sound hop (fun y hy => by simp [hy]) h3 hb) (ble_iff.1 h4) h5
    | nilslice =>
      have hx' : (ob (sbound T lhi 0) fun h => ob (sbound T llo 0) fun l => ib (Nat.beq (Nat.add l h) 0) (some LV.nilslice) none) = some x := hx
      simp only [ob_some, ib_some] at hx'
      obtain ⟨hh, hb, l, hl, h4, h5⟩ := hx'
      cases h5
      have e0 : ρ a = .slice none 0 0 := by generalize ρ a = z at hr; cases hr; rfl
      rw [e0]
      exact ⟨_, gives_sliceNil ht hsz (sbound_sound hop (fun y hy => by simp [hy]) h2 hl) (sbound_sound hop (fun y hy => by simp [hy]) h3 hb) (beq_iff.1 h4), .nilslice⟩
    | _ => cases hx
  · rename_i la llo lhi n e h1 h2 h3 ht
    simp only [Option.map_eq_some_iff] at hc
    obtain ⟨sz, hsz, e'⟩ := hc
    cases e'
    exact ps_sliceArr h1 h2 h3 (.inl ht) hsz h hop hs
  · rename_i la llo lhi pa h1 h2 h3 ht
    split at hc
    · rename_i n e hpa
      simp only [Option.map_eq_some_iff] at hc
      obtain ⟨sz, hsz, e'⟩ := hc
      cases e'
      exact ps_sliceArr h1 h2 h3 (.inr ⟨pa, ht, hpa⟩) hsz h hop hs
    · cases hc
  · cases hc
theorem ps_len {t ty : TypeId} {a : Operand} (he : execOp ρ o = (do pure (.value (← Builtin.len_ #[t] ty #[ρ a])))) (hc : compBuiltin P nt .len [a] [t] = some (.p po)) (hop : OpdOk φ nt T ρ [a]) (hs : Sim P φ H w) (h : pureOp F po T H = some x) : PureOk P φ w ρ o x := by
  refine PureOk.of ?_ he
  simp only [compBuiltin] at hc
  have arr : ∀ {n e : Nat} {f : LOpd → POp}, (∀ l, f l = .lenArr n) → p1 nt f a = some (.p po) → (P.underlying t = some (.array n e) ∨ ∃ q, P.underlying t = some (.pointer q) ∧ P.underlying q = some (.array n e)) → Gives P φ w (Builtin.len_ #[t] ty #[ρ a]) x := by
    intro n e f hf hp ht
    obtain ⟨y, hy, ee⟩ := p1_some hp
    cases ee
    rw [hf] at h
    have h' : some (LV.int .i64 (.ofNat n)) = some x := h
    cases h'
    refine ⟨.int .i64 n, ?_, .int _ _⟩
    rcases ht with ht | ⟨q, ht, hq⟩
    · simp [Builtin.len_, run_underlying ht, goInt]
    · simp [Builtin.len_, run_underlying ht, run_underlying hq, goInt]
  split at hc
  · rename_i ht
    obtain ⟨y, hy, e⟩ := p1_some hc
    cases e
    obtain ⟨u, hu, hx⟩ := ob_some.1 (show (ob (getO y T) lenStrLV) = some x from h)
    exact gives_lenStr ht (hop.one (by simp) hy hu) hx
  · rename_i n e ht; exact arr (fun _ => rfl) hc (.inl ht)
  · rename_i e ht
    obtain ⟨y, hy, e⟩ := p1_some hc
    cases e
    obtain ⟨u, hu, hx⟩ := ob_some.1 (show (ob (getO y T) lenSlLV) = some x from h)
    exact gives_lenSl ht (hop.one (by simp) hy hu) hx
  · rename_i k e ht
    obtain ⟨y, hy, e⟩ := p1_some hc
    cases e
    obtain ⟨u, hu, hx⟩ := ob_some.1 (show (ob (getO y T) fun a => lenMapLV a H) = some x from h)
    exact gives_lenMap hs ht (hop.one (by simp) hy hu) hx
  · rename_i q ht
    split at hc
    · rename_i n e hq; exact arr (fun _ => rfl) hc (.inr ⟨q, ht, hq⟩)
    · cases hc
  · cases hc
theorem ps_minmax {mx : Bool} {ts : Array TypeId} {ty : TypeId} {xs : List Operand} {us : Array Value} (hus : us.toList = xs.map ρ) (he : execOp ρ o = (do pure (.value (← (if mx then Builtin.max_ ts ty us else Builtin.min_ ts ty us)))))
    (hc : (opds nt xs).map (fun xs => LOp.p (.minmax mx xs)) = some (.p po)) (hop : OpdOk φ nt T ρ xs) (h : pureOp F po T H = some x) : PureOk P φ w ρ o x := by
  refine PureOk.of ?_ he
  simp only [Option.map_eq_some_iff] at hc
  obtain ⟨los, hlos, e⟩ := hc
  cases e
  have h' : (ob (getOs T los) fun vs => match vs with | v :: vs => minmaxL mx v vs | [] => none) = some x := h
  obtain ⟨vs, hvs, hx⟩ := ob_some.1 h'
  have hr := hop.list (fun _ hy => hy) hlos hvs
  rw [← hus] at hr
  cases vs with
  | nil => cases hx
  | cons v vs =>
    generalize hl : us.toList = l at hr
    cases hr with
    | cons hv hvs' =>
      rename_i u us'
      obtain ⟨z, hz, hrz⟩ := gives_minmax (P := P) (w := w) mx hv hvs' hx
      refine ⟨z, ?_, hrz⟩
      cases mx
      · simp only [Bool.false_eq_true, if_false] at hz ⊢
        unfold Builtin.min_; rw [hl]; exact hz
      · simp only [if_true] at hz ⊢
        unfold Builtin.max_; rw [hl]; exact hz
end
end
end Go.LX

/- LX, part 15: the law of the pure operations. -/
namespace Go.LX
section
variable {P : Program} {φ : Phi} {H : Heap} {w : World} {F : Facts} {nt : Nat} {T : Trie LV} {ρ : Operand → Value} {o : Oper} {po : POp} {x : LV}

theorem one_of {a : Operand} {f : LOpd → POp} (hc : p1 nt f a = some (.p po)) (hop : OpdOk φ nt T ρ [a]) : ∃ la, po = f la ∧ ∀ u, getO la T = some u → Rel φ u (ρ a) := by
  obtain ⟨la, h1, e⟩ := p1_some hc
  cases e
  exact ⟨la, rfl, fun u hu => hop.one (by simp) h1 hu⟩
theorem two_of {a b : Operand} {f : LOpd → LOpd → POp} (hc : p2 nt f a b = some (.p po)) (hop : OpdOk φ nt T ρ [a, b]) : ∃ la lb, po = f la lb ∧ (∀ u, getO la T = some u → Rel φ u (ρ a)) ∧ (∀ u, getO lb T = some u → Rel φ u (ρ b)) := by
  obtain ⟨la, lb, h1, h2, e⟩ := p2_some hc
  cases e
  exact ⟨la, lb, rfl, fun u hu => hop.one (by simp) h1 hu, fun u hu => hop.one (by simp) h2 hu⟩
theorem ps_mv {a : Operand} (he : execOp ρ o = pure (.value (ρ a))) (hc : p1 nt .mv a = some (.p po)) (hop : OpdOk φ nt T ρ [a]) (h : pureOp F po T H = some x) : PureOk P φ w ρ o x := by
  obtain ⟨la, rfl, ha⟩ := one_of hc hop
  exact ⟨_, by rw [he]; rfl, ha _ h⟩
theorem ps_call {c : Call} {b : Builtin} (ho : o.op = .call c) (hb : c.callee = .builtin b) (hc : compBuiltin P nt b c.args.toList c.argTypes.toList = some (.p po)) (hop : OpdOk φ nt T ρ c.args.toList) (hs : Sim P φ H w) (h : pureOp F po T H = some x) : PureOk P φ w ρ o x := by
  have hex : execOp ρ o = builtin b c.argTypes o.type (c.args.map fun | .const _ => true | _ => false) (c.args.map ρ) := by
    unfold execOp
    simp only [ho, resolve, hb]
    rfl
  obtain ⟨args, hargs⟩ : ∃ args, c.args.toList = args := ⟨_, rfl⟩
  obtain ⟨ts, hts⟩ : ∃ ts, c.argTypes.toList = ts := ⟨_, rfl⟩
  have e1 : c.args = args.toArray := by rw [← hargs]
  have e2 : c.argTypes = ts.toArray := by rw [← hts]
  rw [hargs, hts] at hc
  rw [hargs] at hop
  rw [e1, e2] at hex
  unfold compBuiltin at hc
  split at hc
  · rename_i a t
    exact ps_len (t := t) (ty := o.type) (by rw [hex]; simp only [builtin, List.map_toArray, List.map_cons, List.map_nil]) (by unfold compBuiltin; exact hc) hop hs h
  · split at hc
    · split at hc
      · split at hc
        · exact (not_p2 hc).elim
        · cases hc
      · split at hc
        · exact (not_p2 hc).elim
        · cases hc
      · cases hc
    · cases hc
  · split at hc
    · split at hc
      · split at hc
        · exact (not_p2 hc).elim
        · cases hc
      · split at hc
        · exact (not_p2 hc).elim
        · cases hc
      · cases hc
    · cases hc
  · exact ps_minmax (mx := true) (ts := ts.toArray) (ty := o.type) (us := (args.toArray.map ρ)) (by simp) (by rw [hex]; rfl) hc hop h
  · exact ps_minmax (mx := false) (ts := ts.toArray) (ty := o.type) (us := (args.toArray.map ρ)) (by simp) (by rw [hex]; rfl) hc hop h
  · split at hc
    · split at hc
      · exact (not_p2 hc).elim
      · cases hc
    · cases hc
  · split at hc
    · split at hc
      · exact (not_p2 hc).elim
      · cases hc
    · cases hc
  · cases hc
  · cases hc

set_option maxHeartbeats 1000000 in
theorem pure_sound (hc : compOp P nt o = some (.p po)) (hop : OpdOk φ nt T ρ o.op.operands.toList) (hs : Sim P φ H w) (hF : FactsOk φ F) (h : pureOp F po T H = some x) : PureOk P φ w ρ o x := by
  unfold compOp at hc
  split at hc <;> first | (cases hc; done) | (rename_i ho; rw [ho] at hop; simp only [Op.operands] at hop)
  · exact ps_mv (by unfold execOp; simp only [ho]) hc hop h
  · exact ps_mv (by unfold execOp; simp only [ho]) hc hop h
  · -- pick
    split at hc
    · rename_i lc la lb h1 h2 h3
      cases hc
      have h' : (ob (getO lc T) fun c => pickLV c F (getO la T) (getO lb T)) = some x := h
      obtain ⟨c, hcv, hx⟩ := ob_some.1 h'
      have hr := hop.one (by simp) h1 hcv
      cases c with
      | bool b =>
        have hx' : ib b (getO la T) (getO lb T) = some x := hx
        have e := rel_bool hr
        cases b with
        | true => exact ⟨_, by unfold execOp; simp only [ho, e]; rfl, hop.one (by simp) h2 hx'⟩
        | false => exact ⟨_, by unfold execOp; simp only [ho, e]; rfl, hop.one (by simp) h3 hx'⟩
      | sbool se =>
        obtain ⟨b, hb, hx'⟩ := ob_some.1 (show (ob (lookB F se) fun x => ib x (getO la T) (getO lb T)) = some x from hx)
        obtain ⟨b', e, he⟩ : ∃ b', _ = Value.bool b' ∧ se.ev φ = some (if b' then 1 else 0) := rel_sbool hr
        have := lookB_ev hF hb he
        subst this
        cases b with
        | true => exact ⟨_, by unfold execOp; simp only [ho, e]; rfl, hop.one (by simp) h2 hx'⟩
        | false => exact ⟨_, by unfold execOp; simp only [ho, e]; rfl, hop.one (by simp) h3 hx'⟩
      | _ => cases hx
    · cases hc
  · -- alloc
    simp only [Option.map_eq_some_iff] at hc; obtain ⟨_, _, e⟩ := hc; cases e
  · exact (not_p1 hc).elim
  · -- build
    rename_i t ps
    exact PureOk.of (gives_build hc (by simpa using hop) h) (by unfold execOp; simp only [ho])
  · -- buildSlice
    split at hc
    · split at hc
      · split at hc
        · simp only [Option.map_eq_some_iff] at hc; obtain ⟨_, _, e⟩ := hc; cases e
        · cases hc
      · cases hc
    · cases hc
  · split at hc
    · split at hc
      · exact (not_p3 hc).elim
      · cases hc
    · cases hc
  · split at hc
    · split at hc
      · exact (not_p3 hc).elim
      · cases hc
    · cases hc
  · -- load
    split at hc
    · rename_i n ht
      obtain ⟨la, rfl, ha⟩ := one_of hc hop
      have h' : (ob (getO la T) fun p => ob (loadRow p H n) fun cs => some (.agg cs)) = some x := h
      simp only [ob_some] at h'
      obtain ⟨p, hp, cs, hcs, hx⟩ := h'
      cases hx
      exact PureOk.of (gives_loadN hs ht hcs (ha p hp)) (by unfold execOp; simp only [ho])
    · rename_i n ht
      obtain ⟨la, rfl, ha⟩ := one_of hc hop
      have h' : (ob (getO la T) fun p => load1 p H) = some x := h
      obtain ⟨p, hp, hx⟩ := ob_some.1 h'
      exact PureOk.of (gives_load1 hs ht hx (ha p hp)) (by unfold execOp; simp only [ho])
    · cases hc
  · -- store
    split at hc
    · exact (not_p2 hc).elim
    · exact (not_p2 hc).elim
    · cases hc
  · -- nilCheck
    obtain ⟨la, rfl, ha⟩ := one_of hc hop
    obtain ⟨p, hp, hx⟩ := ob_some.1 (show (ob (getO la T) nilCheckLV) = some x from h)
    exact gives_nilCheck ho hx (ha p hp)
  · exact ps_bin ho hc hop hF h
  · -- unOp
    obtain ⟨la, rfl, ha⟩ := one_of hc hop
    obtain ⟨p, hp, hx⟩ := ob_some.1 (show (ob (getO la T) fun a => unLV _ a) = some x from h)
    exact PureOk.of (gives_un (ha p hp) hx) (by unfold execOp; simp only [ho])
  · -- convert
    rename_i s d a
    split at hc
    · rename_i h1 h2
      obtain ⟨la, rfl, ha⟩ := one_of hc hop
      obtain ⟨p, hp, hx⟩ := ob_some.1 (show (ob (getO la T) fun a => convIntLV a _) = some x from h)
      exact PureOk.of (gives_convInt h1 h2 (ha p hp) hx) (by unfold execOp; simp only [ho])
    · rename_i h1 h2
      obtain ⟨la, rfl, ha⟩ := one_of hc hop
      obtain ⟨p, hp, hx⟩ := ob_some.1 (show (ob (getO la T) strLV) = some x from h)
      have hr := ha p hp
      refine PureOk.of (s := convert s d (ρ a)) ?_ (by unfold execOp; simp only [ho])
      cases p with
      | str l n =>
        have hx' : some (LV.str l n) = some x := hx
        cases hx'
        obtain ⟨hn, e⟩ := rel_str hr
        rw [e]
        exact ⟨_, by simp [convert, run_underlying h1, run_underlying h2], .str _ _ hn⟩
      | _ => cases hx
    · rename_i e h1 h2
      split at hc
      · rename_i hu8
        have hu : P.underlying e = some (.int .u8) := by
          unfold isU8 at hu8; split at hu8
          · assumption
          · cases hu8
        obtain ⟨la, rfl, ha⟩ := one_of hc hop
        obtain ⟨p, hp, hx⟩ := ob_some.1 (show (ob (getO la T) fun a => bytesToStrLV a H) = some x from h)
        exact PureOk.of (gives_bytesToStr hs h1 hu h2 (ha p hp) hx) (by unfold execOp; simp only [ho])
      · cases hc
    · split at hc
      · exact (not_p1 hc).elim
      · cases hc
    · cases hc
  · -- makeInterface
    rename_i t a
    split at hc
    · cases hc
    · rename_i d hnot hd
      obtain ⟨la, rfl, ha⟩ := one_of hc hop
      obtain ⟨p, hp, hx⟩ := ob_some.1 (show (ob (getO la T) fun a => some (LV.iface _ a)) = some x from h)
      cases hx
      refine PureOk.of (s := Instr.makeInterface t (ρ a)) ⟨_, ?_, .iface _ (ha p hp)⟩ (by unfold execOp; simp only [ho])
      cases d <;> first | exact (hnot _ rfl).elim | simp [Instr.makeInterface, run_underlying hd]
    · cases hc
  · -- makeFunc
    rename_i f first caps
    split at hc
    · rename_i a b h1 h2
      cases hc
      have h' : (ob (getOs T a) fun fs => ob (getOs T b) fun cs => some (mkFuncLV (posOf f) fs cs)) = some x := h
      simp only [ob_some] at h'
      obtain ⟨fs, hfs, cs, hcs, hx⟩ := h'
      cases hx
      have r1 := hop.list (fun y hy => by simp [hy]) h1 hfs
      have r2 := hop.list (fun y hy => by simp [hy]) h2 hcs
      refine ⟨.func (.func f) (first.map ρ) (caps.map ρ), by unfold execOp; simp only [ho]; rfl, ?_⟩
      have e1 : first.map ρ = (first.toList.map ρ).toArray := by rw [← Array.toList_map]
      have e2 : caps.map ρ = (caps.toList.map ρ).toArray := by rw [← Array.toList_map]
      rw [e1, e2]
      cases fs with
      | nil =>
        generalize hl : first.toList.map ρ = l at r1
        cases r1
        have := Rel.func (posOf f) r2
        rw [posOf_idx] at this; exact this
      | cons g gs =>
        have := Rel.mfunc (posOf f) r1 r2
        rw [posOf_idx] at this; exact this
    · cases hc
  · -- makeSlice
    split at hc
    · split at hc
      · split at hc
        · exact (not_p2 hc).elim
        · cases hc
      · cases hc
    · cases hc
  · exact ps_slice ho hc (by simpa using hop) hs h
  · -- fieldAddr
    rename_i t a fi
    split at hc
    · rename_i fs hd
      split at hc
      · rename_i fd hfd
        split at hc
        · rename_i s hsz
          obtain ⟨la, rfl, ha⟩ := one_of hc hop
          obtain ⟨p, hp, hx⟩ := ob_some.1 (show (ob (getO la T) fun a => offLV a _) = some x from h)
          have hr := ha p hp
          refine PureOk.of (s := Instr.fieldAt t (ρ a) fi) ?_ (by unfold execOp; simp only [ho])
          cases p with
          | ptr b off =>
            have hx' : some (LV.ptr b (Nat.add off fd.offset)) = some x := hx
            cases hx'
            obtain ⟨B, base, lim, hφ, e⟩ := rel_ptr hr
            rw [e]
            refine ⟨.pointer (some ⟨B, base + off + fd.offset, none⟩), ?_, ?_⟩
            · simp [Instr.fieldAt, run_underlying hd, hfd, Instr.sureAddr, fieldPlace, szOf_some hsz, addr_add]
            · rw [Nat.add_assoc]; exact .ptr _ hφ
          | _ => cases hx
        · cases hc
      · cases hc
    · cases hc
  · -- field
    rename_i t a fi
    split at hc
    · rename_i fs hd
      split at hc
      · rename_i fd hfd
        split at hc
        · rename_i n ht
          obtain ⟨la, rfl, ha⟩ := one_of hc hop
          have h' : (ob (getO la T) fun a => ob (aggOf a) fun cs => ob (listSub cs fd.offset n) fun r => some (.agg r)) = some x := h
          simp only [ob_some] at h'
          obtain ⟨p, hp, cs, hcs, r, hr, hx⟩ := h'
          cases hx
          rw [aggOf_some hcs] at hp
          obtain ⟨xs, e, hxs⟩ := rel_agg (ha _ hp)
          obtain ⟨v, hv, hrv⟩ := gives_partN (P := P) (w := w) ht hr hxs
          refine PureOk.of (s := Instr.field t (ρ a) fi) ⟨v, ?_, hrv⟩ (by unfold execOp; simp only [ho])
          rw [e]; simp [Instr.field, run_underlying hd, hfd, asAgg, hv]
        · rename_i n ht
          obtain ⟨la, rfl, ha⟩ := one_of hc hop
          have h' : (ob (getO la T) fun a => ob (aggOf a) fun cs => listGet cs fd.offset) = some x := h
          simp only [ob_some] at h'
          obtain ⟨p, hp, cs, hcs, hx⟩ := h'
          rw [aggOf_some hcs] at hp
          obtain ⟨xs, e, hxs⟩ := rel_agg (ha _ hp)
          obtain ⟨v, hv, hrv⟩ := gives_part1 (P := P) (w := w) ht hx hxs
          refine PureOk.of (s := Instr.field t (ρ a) fi) ⟨v, ?_, hrv⟩ (by unfold execOp; simp only [ho])
          rw [e]; simp [Instr.field, run_underlying hd, hfd, asAgg, hv]
        · cases hc
      · cases hc
    · cases hc
  · -- indexAddr
    rename_i t a ix
    split at hc
    · rename_i n e hd
      split at hc
      · rename_i s hsz
        obtain ⟨la, lb, rfl, ha, hb⟩ := two_of hc hop
        have h' : (ob (getO la T) fun a => ob (getO lb T) fun i => ob (natOf i) fun n' => idxArrLV a n s n') = some x := h
        simp only [ob_some] at h'
        obtain ⟨p, hp, i, hi, m, hm, hx⟩ := h'
        obtain ⟨k, ek⟩ := natOf_rel hm (hb i hi)
        refine PureOk.of (s := Instr.indexAt t (ρ a) (ρ ix)) ?_ (by unfold execOp; simp only [ho])
        rw [ek]
        cases p with
        | ptr b off =>
          have hx' : ib (Nat.ble (Nat.succ m) n) (some (LV.ptr b (Nat.add off (Nat.mul m s)))) none = some x := hx
          rw [ib_some] at hx'
          obtain ⟨h1, h2⟩ := hx'
          cases h2
          exact gives_idxArr hd hsz (ha _ hp) (ble_iff.1 h1)
        | _ => cases hx
      · cases hc
    · rename_i e hd
      split at hc
      · rename_i s hsz
        obtain ⟨la, lb, rfl, ha, hb⟩ := two_of hc hop
        have h' : (ob (getO la T) fun a => ob (getO lb T) fun i => ob (natOf i) fun n' => idxSlLV a s n') = some x := h
        simp only [ob_some] at h'
        obtain ⟨p, hp, i, hi, m, hm, hx⟩ := h'
        obtain ⟨k, ek⟩ := natOf_rel hm (hb i hi)
        refine PureOk.of (s := Instr.indexAt t (ρ a) (ρ ix)) ?_ (by unfold execOp; simp only [ho])
        rw [ek]
        cases p with
        | slice b off len sz' cap =>
          have hx' : ib (Nat.ble (Nat.succ m) len) (ib (Nat.beq s sz') (some (LV.ptr b (Nat.add off (Nat.mul m s)))) none) none = some x := hx
          rw [ib_some, ib_some] at hx'
          obtain ⟨h1, h2, h3⟩ := hx'
          have := beq_iff.1 h2
          subst this
          cases h3
          exact gives_idxSl hd hsz (ha _ hp) (ble_iff.1 h1)
        | _ => cases hx
      · cases hc
    · cases hc
  · -- index
    rename_i t a ix
    split at hc
    · rename_i hd
      obtain ⟨la, lb, rfl, ha, hb⟩ := two_of hc hop
      have h' : (ob (getO la T) fun a => ob (getO lb T) fun i => ob (natOf i) fun n' => ixStrLV a n') = some x := h
      simp only [ob_some] at h'
      obtain ⟨p, hp, i, hi, m, hm, hx⟩ := h'
      obtain ⟨k, ek⟩ := natOf_rel hm (hb i hi)
      refine PureOk.of (s := Instr.index t (ρ a) (ρ ix)) ?_ (by unfold execOp; simp only [ho])
      rw [ek]
      cases p with
      | str len n =>
        have hx' : ib (Nat.ble (Nat.succ m) len) (some (LV.int .u8 (.ofNat (strAt len n m)))) none = some x := hx
        rw [ib_some] at hx'
        obtain ⟨h1, h2⟩ := hx'
        cases h2
        obtain ⟨hn, e⟩ := rel_str (ha _ hp)
        rw [e]
        exact ⟨_, gives_ixStr hd (ble_iff.1 h1), .int _ _⟩
      | sstr es =>
        obtain ⟨e1, he1, hx'⟩ := ob_some.1 (show (ob (listGetS es m) fun e => some (mkI .u8 e)) = some x from hx)
        cases hx'
        have hra := ha _ hp
        generalize hu : ρ a = u at hra
        cases hra with
        | sstr hes => exact gives_ixSstr hd hes he1
      | _ => cases hx
    · rename_i n e hd
      split at hc
      · rename_i s ht
        obtain ⟨la, lb, rfl, ha, hb⟩ := two_of hc hop
        have h' : (ob (getO la T) fun a => ob (getO lb T) fun i => ob (natOf i) fun n' => ob (aggOf a) fun cs => ib (Nat.ble (Nat.succ n') n) (ob (listSub cs (Nat.mul n' s) s) fun r => some (.agg r)) none) = some x := h
        simp only [ob_some, ib_some] at h'
        obtain ⟨p, hp, i, hi, m, hm, cs, hcs, h1, r, hr, hx⟩ := h'
        cases hx
        obtain ⟨k, ek⟩ := natOf_rel hm (hb i hi)
        rw [aggOf_some hcs] at hp
        obtain ⟨xs, e', hxs⟩ := rel_agg (ha _ hp)
        obtain ⟨v, hv, hrv⟩ := gives_partN (P := P) (w := w) ht hr hxs
        obtain ⟨d, i', hd', hi', hn', _, _⟩ := aggOrOne_some ht
        refine PureOk.of (s := Instr.index t (ρ a) (ρ ix)) ⟨v, ?_, hrv⟩ (by unfold execOp; simp only [ho])
        have hlt : m < n := ble_iff.1 h1
        have hv' : (part e xs.toArray (m * s)).run P w = .ok v w := hv
        rw [ek, e']
        simp only [Instr.index, Sem.run_bind, asIntOf, Sem.run_pure, Result.andThen_ok, run_underlying hd]
        rw [if_pos ⟨Int.natCast_nonneg m, by show (m : Int) < (n : Int); omega⟩]
        simp only [Sem.run_bind, run_sizeOf' hi', hn', Result.andThen_ok]
        exact hv'
      · rename_i s ht
        obtain ⟨la, lb, rfl, ha, hb⟩ := two_of hc hop
        have h' : (ob (getO la T) fun a => ob (getO lb T) fun i => ob (natOf i) fun n' => ob (aggOf a) fun cs => ib (Nat.ble (Nat.succ n') n) (listGet cs n') none) = some x := h
        simp only [ob_some, ib_some] at h'
        obtain ⟨p, hp, i, hi, m, hm, cs, hcs, h1, hr⟩ := h'
        obtain ⟨k, ek⟩ := natOf_rel hm (hb i hi)
        rw [aggOf_some hcs] at hp
        obtain ⟨xs, e', hxs⟩ := rel_agg (ha _ hp)
        obtain ⟨d, i', hd', hi', hn', _, h1'⟩ := aggOrOne_some ht
        obtain ⟨v, hv, hrv⟩ := gives_part1 (P := P) (w := w) ht hr hxs
        refine PureOk.of (s := Instr.index t (ρ a) (ρ ix)) ⟨v, ?_, hrv⟩ (by unfold execOp; simp only [ho])
        have hlt : m < n := ble_iff.1 h1
        have hs1 : i'.size = 1 := by rw [hn']; exact h1' rfl
        rw [ek, e']
        simp only [Instr.index, Sem.run_bind, asIntOf, Sem.run_pure, Result.andThen_ok, run_underlying hd]
        rw [if_pos ⟨Int.natCast_nonneg m, by show (m : Int) < (n : Int); omega⟩]
        simp only [Sem.run_bind, run_sizeOf' hi', hs1, Result.andThen_ok, Nat.mul_one]
        exact hv
      · cases hc
    · cases hc
  · -- lookup
    split at hc
    · rename_i kt e hd
      split at hc
      · rename_i z hz
        split at hc
        · rename_i k hk
          obtain ⟨la, lb, rfl, ha, hb⟩ := two_of hc hop
          have h' : (ob (getO lb T) fun kv => ib (keyOk k kv) (ob (getO la T) fun m => lookupLV m H z _ kv) none) = some x := h
          simp only [ob_some, ib_some] at h'
          obtain ⟨kv, hkv, hok, m, hm, hx⟩ := h'
          exact PureOk.of (gives_lookup hs hd hk hz hok (hb kv hkv) (ha m hm) hx) (by unfold execOp; simp only [ho])
        · cases hc
      · cases hc
    · cases hc
  · -- mapEntry
    split at hc
    · split at hc
      · split at hc
        · exact (not_p2 hc).elim
        · cases hc
      · cases hc
    · cases hc
  · exact (not_p3 hc).elim
  · split at hc
    · exact (not_p1 hc).elim
    · cases hc
  · simp only [Option.map_eq_some_iff] at hc; obtain ⟨_, _, e⟩ := hc; cases e
  · -- entry
    obtain ⟨la, rfl, ha⟩ := one_of hc hop
    obtain ⟨p, hp, hx⟩ := ob_some.1 (show (ob (getO la T) fun a => entryLV H a) = some x from h)
    exact PureOk.of (gives_entry hs (ha p hp) hx) (by unfold execOp; simp only [ho])
  · -- typeAssert
    rename_i a xt t ok
    split at hc
    · cases hc
    · rename_i hnot hd hz
      obtain ⟨la, rfl, ha⟩ := one_of hc hop
      obtain ⟨p, hp, hx⟩ := ob_some.1 (show (ob (getO la T) fun a => assertLV a _ _ _) = some x from h)
      refine PureOk.of (gives_assert (xt := xt) hd (fun m e => ?_) hz (ha p hp) hx) (by unfold execOp; simp only [ho])
      subst e
      exact hnot _ rfl
    · cases hc
  · -- extract
    rename_i a ix
    obtain ⟨la, rfl, ha⟩ := one_of hc hop
    have h' : (ob (getO la T) fun a => ob (tupOf a) fun vs => listGet vs _) = some x := h
    simp only [ob_some] at h'
    obtain ⟨p, hp, vs, hvs, hx⟩ := h'
    rw [tupOf_some hvs] at hp
    obtain ⟨xs, e, hxs⟩ := rel_tup (ha _ hp)
    refine PureOk.of (s := Instr.extract (ρ a) ix) ?_ (by unfold execOp; simp only [ho])
    rw [e]
    exact gives_extract hxs hx
  · simp only [Option.map_eq_some_iff] at hc; obtain ⟨_, _, e⟩ := hc; cases e
  · -- defer
    split at hc
    · simp only [Option.map_eq_some_iff] at hc; obtain ⟨_, _, e⟩ := hc; cases e
    · cases hc
  · -- call
    split at hc
    · simp only [Option.map_eq_some_iff] at hc; obtain ⟨_, _, e⟩ := hc; cases e
    · split at hc
      · cases hc
      · cases hc
    · rename_i b hb
      exact ps_call ho hb hc (by simpa [Call.operands, hb] using hop) hs h
    · cases hc
end
end Go.LX

/- LX, part 16: operations that make blocks, or write them. -/
namespace Go.LX
section
variable {P : Program} {φ : Phi} {H : Heap} {w : World}

theorem mkRow_nil (t : Trie LV) (i : Nat) : mkRow t i [] = t := rfl
theorem mkRow_cons (t : Trie LV) (i : Nat) (v : LV) (vs : List LV) : mkRow t i (v :: vs) = mkRow (t.putN i (some v)) (Nat.succ i) vs := rfl
theorem getN_mkRow : ∀ (vs : List LV) (t : Trie LV) (i j : Nat), (mkRow t i vs).getN j = if i ≤ j ∧ j < i + vs.length then vs[j - i]? else t.getN j
  | [], t, i, j => by rw [mkRow_nil, if_neg (by simp)]
  | v :: vs, t, i, j => by
    rw [mkRow_cons, getN_mkRow vs, Trie.getN_putN]
    simp only [List.length_cons]
    by_cases h1 : j = i
    · subst h1
      rw [if_neg (by omega), if_pos rfl, if_pos (by omega)]; simp
    · by_cases h2 : Nat.succ i ≤ j ∧ j < Nat.succ i + vs.length
      · rw [if_pos h2, if_pos (by omega), show j - i = (j - Nat.succ i) + 1 by omega]; simp
      · rw [if_neg h2, if_neg h1, if_neg (by omega)]
theorem putRow_cons (t : Trie LV) (i : Nat) (v : LV) (vs : List LV) : putRow t i (v :: vs) = ob (t.getN i) fun _ => putRow (t.putN i (some v)) (Nat.succ i) vs := rfl
theorem putRow_some : ∀ {vs : List LV} {t t' : Trie LV} {i : Nat}, putRow t i vs = some t' → t' = mkRow t i vs ∧ ∀ j, j < vs.length → (t.getN (i + j)).isSome = true
  | [], t, t', i, h => by have h' : some t = some t' := h; cases h'; exact ⟨rfl, fun j hj => by simp at hj⟩
  | v :: vs, t, t', i, h => by
    rw [putRow_cons] at h
    obtain ⟨x, hx, hr⟩ := ob_some.1 h
    obtain ⟨h1, h2⟩ := putRow_some hr
    refine ⟨h1, fun j hj => ?_⟩
    cases j with
    | zero => simp [hx]
    | succ j =>
      have := h2 j (by simpa using hj)
      rw [Trie.getN_putN] at this
      rw [if_neg (by omega)] at this
      rwa [show i + (j + 1) = Nat.succ i + j by omega]
theorem isOne_rel {x : LV} {v : Value} (h : isOne x = true) (hr : Rel φ x v) : v.oneCell' = true := by
  cases hr <;> first | rfl | assumption | (exact absurd h (by simp [isOne]))
theorem allOne_rel : ∀ {xs : List LV} {vs : List Value}, allOne xs = true → Rels φ xs vs → ∀ v ∈ vs, v.oneCell' = true
  | _, _, h, .nil, v, hv => by cases hv
  | _, _, h, .cons h0 h', v, hv => by
    rename_i x xs u us
    have h2 : ib (isOne x) (allOne xs) false = true := h
    rw [ib_ff] at h2
    rcases List.mem_cons.1 hv with rfl | hv
    · exact isOne_rel h2.1 h0
    · exact allOne_rel h2.2 h' v hv

structure PlainW (w w' : World) : Prop where
  tape : w'.tape = w.tape
  os : w'.os = w.os
  out : w'.output = w.output
theorem heap_push_old {w : World} {o : Obj} {w' : World} (h : w'.heap = w.heap.push o) {B : Nat} (hB : B < w.heap.size) : w'.heap[B]? = w.heap[B]? := by
  rw [h, Array.getElem?_push, if_neg (by omega)]
theorem heap_push_new {w : World} {o : Obj} {w' : World} (h : w'.heap = w.heap.push o) : w'.heap[w.heap.size]? = some o := by
  rw [h, Array.getElem?_push, if_pos rfl]
/-- a new row of cells; what is known of it: its first cells -/
theorem new_row (hs : Sim P φ H w) {t : Trie LO} (hsub : ∀ p o, t.get p = some o → H.t.get p = some o) {w' : World} {cur : Array Value} {e : TypeId} {fr : Nat × Nat} (hw : PlainW w w') (hh : w'.heap = w.heap.push (.cells cur e fr))
    {lim : Nat} (hlim : lim ≤ cur.size) (hfr : lim ≤ fr.1 ∨ fr.2 ≤ fr.1) {cs : List LV} {xs : List Value} (hr : Rels φ cs xs) (ho : ∀ v ∈ xs, v.oneCell' = true) (hx : ∀ (i : Nat) (v : Value), xs[i]? = some v → cur[i]? = some v) (hl : xs.length ≤ lim) :
    Stp P φ H w (φ.set H.next (.blk w.heap.size 0 lim)) ⟨H.next.succ, t.put (some (.cells (mkRow .lf 0 cs))) H.next, H.fs⟩ w' := by
  have hnone : φ H.next = none := hs.fresh _ (Nat.le_refl _)
  have hle : φ.le (φ.set H.next (.blk w.heap.size 0 lim)) := Phi.le_set hnone
  have hnew := heap_push_new hh
  have hc : ∀ i, w'.cell? ⟨w.heap.size, 0 + i, none⟩ = cur[i]? := fun i => by simp [World.cell?, hnew]
  refine hs.newAt hsub (B0 := w.heap.size) rfl (.inl (Nat.le_refl _)) hw.tape hw.os hw.out (by rw [hh]; simp) (fun B hB _ => heap_push_old hh hB) (.cells (Phi.set_same _ _ _) ⟨fun i hi => ?_, fun i hi => ?_, fun i x hix => ?_, by rw [hh]; simp⟩)
  · rw [hc, Array.getElem?_eq_getElem (by omega)]; rfl
  · simp only [World.frozen?, hnew]
    rcases hfr with h | h <;> simp <;> omega
  · rw [getN_mkRow] at hix
    split at hix
    · rename_i hlt
      rw [Nat.sub_zero] at hix
      obtain ⟨v, hv, hrv⟩ := hr.get hix
      have hlt' : i < xs.length := (List.getElem?_eq_some_iff.1 hv).1
      exact ⟨by omega, v, by rw [hc]; exact hx i v hv, hrv.mono hle, ho v (List.mem_of_getElem? hv)⟩
    · rw [Trie.getN_lf] at hix; cases hix
/-- cells that are written -/
theorem write_row (hs : Sim P φ H w) {b : Pos} {t : Trie LV} (hb : H.t.get b = some (.cells t)) {B base lim : Nat} (hφ : φ b = some (.blk B base lim)) (hc : CellsOk φ w t B base lim) {o : Nat} {cs : List LV} {xs : List Value} (hr : Rels φ cs xs) (ho : ∀ v ∈ xs, v.oneCell' = true)
    (hle : cs = [] ∨ o + cs.length ≤ lim) : (storeCells ⟨B, base + o, none⟩ xs 0).run P w = .ok () (w.setCells B (base + o) xs) ∧ Stp P φ H w φ (H.setO b (.cells (mkRow t o cs))) (w.setCells B (base + o) xs) := by
  have hlen := hr.length
  have hin : ∀ j, j < xs.length → o + j < lim := by
    intro j hj
    rcases hle with h | h
    · subst h; rw [List.length_nil] at hlen; omega
    · omega
  have hsome : ∀ j, j < xs.length → (w.cell? ⟨B, base + o + j, none⟩).isSome = true := fun j hj => by have := hc.cell (o + j) (hin j hj); rwa [← Nat.add_assoc] at this
  refine ⟨?_, ?_⟩
  · exact run_storeCells_cells B (base + o) xs 0 w (by simpa using hsome) (fun j hj => by have := hc.free (o + j) (hin j hj); rw [← Nat.add_assoc] at this; simpa using this) ho
  · have hheap : ∀ (vs : List Value) (q : Nat) (w : World) (k : Nat), k ≠ B → (w.setCells B q vs).heap[k]? = w.heap[k]? := by
      intro vs
      induction vs with
      | nil => intro q w k _; rfl
      | cons v vs ih => intro q w k hk; rw [World.setCells, ih _ _ _ hk, heap_setCell_other _ _ _ _ hk]
    have hsize : ∀ (vs : List Value) (q : Nat) (w : World), (w.setCells B q vs).heap.size = w.heap.size := by
      intro vs
      induction vs with
      | nil => intro q w; rfl
      | cons v vs ih => intro q w; rw [World.setCells, ih, World.size_setCell]
    have hpl : ∀ (vs : List Value) (q : Nat) (w : World), PlainW w (w.setCells B q vs) := by
      intro vs
      induction vs with
      | nil => intro q w; exact ⟨rfl, rfl, rfl⟩
      | cons v vs ih => intro q w; exact ⟨(ih _ _).tape, (ih _ _).os, (ih _ _).out⟩
    have hin2 := World.cell?_setCells_in B xs (base + o) w hsome
    have hout : ∀ i, (i < o ∨ o + xs.length ≤ i) → (w.setCells B (base + o) xs).cell? ⟨B, base + i, none⟩ = w.cell? ⟨B, base + i, none⟩ := fun i hi =>
      World.cell?_setCells_out B xs (base + o) w _ (fun _ _ => by simp; omega)
    refine hs.update (p0 := b) (B0 := B) hb (by simp [physB, hφ, Phys.block]) (hpl _ _ _).tape (hpl _ _ _).os (hpl _ _ _).out (by rw [hsize]; exact Nat.le_refl _) (fun k _ hk => hheap _ _ _ _ hk) (.cells hφ ⟨fun i hi => ?_, fun i hi => ?_, fun i x hix => ?_, by rw [hsize]; exact hc.lt⟩)
    · by_cases h : i < o ∨ o + xs.length ≤ i
      · rw [hout i h]; exact hc.cell i hi
      · have := hin2 (i - o) (by omega)
        rw [show base + o + (i - o) = base + i by omega] at this
        rw [this]; rfl
    · rw [World.frozen?_setCells]; exact hc.free i hi
    · rw [getN_mkRow] at hix
      split at hix
      · rename_i hlt
        obtain ⟨v, hv, hrv⟩ := hr.get hix
        have hj : i - o < xs.length := (List.getElem?_eq_some_iff.1 hv).1
        have := hin2 (i - o) hj
        rw [show base + o + (i - o) = base + i by omega] at this
        have h3 := hin (i - o) hj
        refine ⟨by omega, v, ?_, hrv, ho v (List.mem_of_getElem? hv)⟩
        rw [this, ← hv, List.getElem?_eq_getElem hj]
      · rename_i hlt
        obtain ⟨h1, v, h2, h3, h4⟩ := hc.known i x hix
        exact ⟨h1, v, by rw [hout i (by omega)]; exact h2, h3, h4⟩
/-- a new object -/
theorem new_obj (hs : Sim P φ H w) {w' : World} {o : LO} {x : Obj} (hw : PlainW w w') (hh : w'.heap = w.heap.push x) (hr : ObjRel P φ o x) :
    Stp P φ H w (φ.set H.next (.obj w.heap.size)) (H.new o) w' := by
  have hnone : φ H.next = none := hs.fresh _ (Nat.le_refl _)
  have hle : φ.le (φ.set H.next (.obj w.heap.size)) := Phi.le_set hnone
  exact hs.newAt (fun _ _ h => h) (B0 := w.heap.size) rfl (.inl (Nat.le_refl _)) hw.tape hw.os hw.out (by rw [hh]; simp) (fun B hB _ => heap_push_old hh hB) (.obj (Phi.set_same _ _ _) (heap_push_new hh) (hr.mono hle))
/-- an object that is written -/
theorem write_obj (hs : Sim P φ H w) {p : Pos} {o0 o : LO} {x : Obj} {r : Nat} (hp : H.t.get p = some o0) (hφ : φ p = some (.obj r)) (hx : (w.heap[r]?).isSome = true) (hr : ObjRel P φ o x) :
    Stp P φ H w φ (H.setO p o) { w with heap := w.heap.setIfInBounds r x } := by
  have hlt : r < w.heap.size := by
    obtain ⟨y, hy⟩ := Option.isSome_iff_exists.1 hx
    exact (Array.getElem?_eq_some_iff.1 hy).1
  refine hs.update (p0 := p) (B0 := r) hp (by simp [physB, hφ, Phys.block]) rfl rfl rfl (by simp) (fun k _ hk => ?_) (.obj hφ ?_ hr)
  · simp only []; rw [Array.getElem?_setIfInBounds_ne (Ne.symm hk)]
  · simp [hlt]
theorem run_setObj {r : Nat} {o x : Obj} (h : w.heap[r]? = some o) (hn : ∀ c e f, o ≠ .cells c e f) : (setObj r x).run P w = .ok () { w with heap := w.heap.setIfInBounds r x } := by
  unfold setObj
  simp only [Sem.run, h]
end
end Go.LX

/- LX, part 17: append and copy. -/
namespace Go.LX
section
variable {P : Program} {φ : Phi} {H : Heap} {w : World}

/-- what is appended, or copied: m elements, whose cells are news -/
inductive Src (P : Program) (w : World) (size : Nat) (t : TypeId) : Value → Nat → List Value → Prop
  | nil {e : TypeId} (ht : P.underlying t = some (.slice e)) : Src P w size t (.slice none 0 0) 0 []
  | some {e : TypeId} (ht : P.underlying t = some (.slice e)) {a : Addr} {m c : Nat} {news : List Value} (hl : news.length = m * size) (hn : ∀ j u, news[j]? = some u → w.cell? (a.add j) = some u) : Src P w size t (.slice (some a) m c) m news
  | str (ht : P.underlying t = some .string) (hs : size = 1) (l n : Nat) : Src P w size t (.string (bytesOf l n)) l ((bytesL l n).map fun b => .int .u8 b.toNat)
theorem Src.len {size : Nat} {t : TypeId} {v : Value} {m : Nat} {news : List Value} (h : Src P w size t v m news) : news.length = m * size ∧ (Builtin.lenOf v).run P w = .ok m w := by
  cases h with
  | nil ht => exact ⟨by simp, rfl⟩
  | some ht hl hn => exact ⟨hl, rfl⟩
  | str ht hs l n => exact ⟨by simp [hs], by simp [Builtin.lenOf]⟩
theorem Src.first {size : Nat} {t : TypeId} {v : Value} {m : Nat} {news : List Value} (h : Src P w size t v m news) (k : Nat) (hk : k ≤ m) : (Builtin.firstCells size k v).run P w = .ok (news.take (k * size)).toArray w := by
  cases h with
  | nil ht => simp [Builtin.firstCells]
  | some ht hl hn =>
    rename_i e a c
    have hlen : (news.take (k * size)).length = k * size := by
      rw [List.length_take, hl]; exact Nat.min_eq_left (Nat.mul_le_mul_right _ hk)
    exact run_firstCells_some w size k a m c _ hlen (fun j u hj => hn j u (by rw [List.getElem?_take] at hj; split at hj; · exact hj
                                                                              · cases hj))
  | str ht hs l n =>
    subst hs
    simp only [Builtin.firstCells, Sem.run_pure, Nat.mul_one]
    congr 1
    apply Array.ext'
    simp only [bytesOf, Array.toList_map, ByteArray.data_extract, List.extract_toArray, List.extract_eq_take_drop, List.drop_zero, Nat.sub_zero, List.map_take]
theorem Src.first_all {size : Nat} {t : TypeId} {v : Value} {m : Nat} {news : List Value} (h : Src P w size t v m news) : (Builtin.firstCells size m v).run P w = .ok news.toArray w := by
  have := h.first m (Nat.le_refl _)
  rwa [← h.len.1, List.take_length] at this
theorem Src.drew {size : Nat} {t : TypeId} {v : Value} {m : Nat} {news : List Value} (h : Src P w size t v m news) : Src P w.drew size t v m news := by
  cases h with
  | nil ht => exact .nil ht
  | some ht hl hn => exact .some ht hl hn
  | str ht hs l n => exact .str ht hs _ _
theorem Src.ty {size : Nat} {t : TypeId} {v : Value} {m : Nat} {news : List Value} (h : Src P w size t v m news) : ∃ d, P.underlying t = Option.some d ∧ ∀ k, d ≠ .int k := by
  cases h with
  | nil ht => exact ⟨_, ht, fun k => by simp⟩
  | some ht hl hn => exact ⟨_, ht, fun k => by simp⟩
  | str ht hs l n => exact ⟨_, ht, fun k => by simp⟩
theorem not_int {d : TypeDesc} (h : ∀ k, d ≠ .int k) : (d matches .int _) = false := by cases d <;> first | rfl | exact absurd rfl (h _)

section
variable {t u ty e : TypeId} {i : TypeInfo} {z : Value} {v : Value} {m : Nat} {news : List Value}
/-- there is room: the cells are written behind the slice's own -/
theorem run_append_in (ht : P.underlying t = some (.slice e)) (hi : P.info? e = some i) (hsrc : Src P w i.size u v m news) (b : Addr) (sLen sCap : Nat) (hroom : sLen + m ≤ sCap) :
    (Builtin.append_ #[t, u] ty #[.slice (some b) sLen sCap, v]).run P w = ((storeCells (b.add (sLen * i.size)) news 0).run P w).andThen fun _ w' => .ok (.slice (some b) (sLen + m) sCap) w' := by
  obtain ⟨d, hd, hni⟩ := hsrc.ty
  simp [Builtin.append_, run_underlying ht, run_underlying hd, run_sizeOf' hi, hsrc.len.2, hroom, hsrc.first_all]
theorem run_append_none0 (ht : P.underlying t = some (.slice e)) (hi : P.info? e = some i) (hsrc : Src P w i.size u v m news) (hm : m = 0) : (Builtin.append_ #[t, u] ty #[.slice none 0 0, v]).run P w = .ok (.slice none 0 0) w := by
  obtain ⟨d, hd, hni⟩ := hsrc.ty
  subst hm
  simp [Builtin.append_, run_underlying ht, run_underlying hd, run_sizeOf' hi, hsrc.len.2, hsrc.first_all]
theorem run_append_out (ht : P.underlying t = some (.slice e)) (hi : P.info? e = some i) (hz : i.zero = some z) (hsrc : Src P w i.size u v m news) (base : Option Addr) (sLen sCap : Nat) (olds : List Value) (hold : (Builtin.firstCells i.size sLen (.slice base sLen sCap)).run P w.drew = .ok olds.toArray w.drew) (hg : sCap < sLen + m) (h63 : sLen + m ≤ 9223372036854775807) (hfit : Builtin.nextslicecap (sLen + m) sCap * i.bytes ≤ 281474976710656) :
    (Builtin.append_ #[t, u] ty #[.slice base sLen sCap, v]).run P w =
      .ok (.slice (some ⟨w.heap.size, 0, none⟩) (sLen + m) (grownCap w (sLen + m) sCap e)) (w.drew.alloc (.cells (olds.toArray ++ news.toArray ++ Builtin.zeroCells z.cells (grownCap w (sLen + m) sCap e - (sLen + m))) e)) := by
  obtain ⟨d, hd, hni⟩ := hsrc.ty
  have hn : ¬ (sLen + m ≤ sCap) := by omega
  have h63' : ¬ (9223372036854775807 < ((sLen : Int) + (m : Int))) := by omega
  have h48' : ¬ (281474976710656 < Builtin.nextslicecap (sLen + m) sCap * i.bytes) := by omega
  have hf := hsrc.drew.first_all
  have hti : (typeInfo e).run P w = .ok i w := by simp [typeInfo, hi]
  have hti' : (typeInfo e).run P w.drew = .ok i w.drew := by simp [typeInfo, hi]
  simp [Builtin.append_, run_underlying ht, run_underlying hd, run_sizeOf' hi, typeInfo, zeroValue, hi, hz, hsrc.len.2, hn, h63', h48', Question.forced, hf, hold, newRow, grownCap]
  congr 2
  apply Array.ext'
  simp
end

theorem appFresh_some {sz n : Nat} {t : Trie LO} {row : Trie LV} {x : LV} {H' : Heap} (h : appFresh H sz n t row = some (x, H')) : n ≤ 16384 ∧ x = .slice H.next 0 n sz 0 ∧ H' = ⟨H.next.succ, t.put (some (.cells row)) H.next, H.fs⟩ := by
  unfold appFresh at h
  rw [ib_eq] at h
  split at h
  · rename_i hle
    have hle : n * 64 ≤ 1048576 := ble_iff.1 hle
    cases h; exact ⟨by omega, rfl, rfl⟩
  · cases h
/-- the new row of an append -/
theorem fresh_sound (hs : Sim P φ H w) {e : TypeId} {i : TypeInfo} {z : Value} (hzs : z.cells.size = i.size) (hpos : 0 < i.size) {n : Nat} (hn : n ≤ 16384) {t : Trie LO} (hsub : ∀ p o, t.get p = some o → H.t.get p = some o) {cs : List LV} {xs : List Value}
    (hr : Rels φ cs xs) (ho : ∀ v ∈ xs, v.oneCell' = true) (hl : xs.length = n * i.size) {old : Nat} {w1 : World} (hw1 : PlainW w w1) (hh : w1.heap = w.heap) :
    ∃ φ', Rel φ' (.slice H.next 0 n i.size 0) (.slice (some ⟨w.heap.size, 0, none⟩) n (grownCap w n old e)) ∧
      Stp P φ H w φ' ⟨H.next.succ, t.put (some (.cells (mkRow .lf 0 cs))) H.next, H.fs⟩ (w1.alloc (.cells (xs.toArray ++ Builtin.zeroCells z.cells (grownCap w n old e - n)) e)) := by
  have hge := grownCap_ge w n old e
  have hmx : grownCap w n old e ≤ maxLen := grownCap_le_maxLen w n old e (Nat.le_trans hn (by decide))
  generalize hc : grownCap w n old e = c at hge hmx
  have hsize : (xs.toArray ++ Builtin.zeroCells z.cells (c - n)).size = c * i.size := by
    simp only [Array.size_append, List.size_toArray, size_zeroCells, hzs, hl, ← Nat.add_mul]
    congr 1; omega
  have hst := new_row (cur := xs.toArray ++ Builtin.zeroCells z.cells (c - n)) (e := e) (fr := (0, 0)) (lim := c * i.size) hs hsub (w' := w1.alloc (.cells (xs.toArray ++ Builtin.zeroCells z.cells (c - n)) e)) ⟨hw1.tape, hw1.os, hw1.out⟩ (by simp [World.alloc, hh]) (by rw [hsize]; exact Nat.le_refl _) (.inr (Nat.le_refl _)) hr ho
    (fun j v hj => by rw [Array.getElem?_append_left (by simpa using (List.getElem?_eq_some_iff.1 hj).1)]; simpa using hj) (by rw [hl]; exact Nat.mul_le_mul_right _ hge)
  exact ⟨_, .slice _ _ _ _ c _ (Phi.set_same _ _ _) hge hmx (by simp) (.inl rfl) (.inr rfl), hst⟩
end
end Go.LX

/- LX, part 18: append, copy. -/
namespace Go.LX
section
variable {P : Program} {φ : Phi} {H : Heap} {w : World}

/-- of what is asked of an operation that writes -/
def MemRun (P : Program) (φ : Phi) (H : Heap) (w : World) (s : Sem Value) (x : LV) (H' : Heap) : Prop := ∃ v w' φ', s.run P w = .ok v w' ∧ Rel φ' x v ∧ Stp P φ H w φ' H' w'

theorem slCells_src (hs : Sim P φ H w) {t e : TypeId} {sz : Nat} (ht : P.underlying t = some (.slice e)) {x : LV} {v : Value} {c : Nat × List LV} (hx : Rel φ x v) (h : slCells x H sz = some c) :
    ∃ xs, Src P w sz t v c.1 xs ∧ Rels φ c.2 xs ∧ (∀ u ∈ xs, u.oneCell' = true) := by
  rcases slCells_some hs hx h with ⟨rfl, rfl⟩ | ⟨a, cap, xs, rfl, hr, hl, hc, ho⟩
  · exact ⟨[], .nil ht, .nil, fun u hu => by cases hu⟩
  · exact ⟨xs, .some ht hl hc, hr, ho⟩
theorem bytesRow_rel (len n : Nat) : ∀ (k i : Nat), i + k ≤ len → Rels φ (bytesRow len n i k) (((bytesL len n).drop i |>.take k).map fun b => .int .u8 b.toNat)
  | 0, i, h => by simp only [List.take_zero, List.map_nil]; exact .nil
  | k+1, i, h => by
    obtain ⟨h1, h2⟩ := strAt_eq len n i (by omega)
    have hlt : i < (bytesL len n).length := by simp; omega
    rw [List.getElem?_eq_getElem hlt] at h1
    rw [List.drop_eq_getElem_cons hlt, List.take_succ_cons, List.map_cons]
    refine .cons ?_ (bytesRow_rel len n k (i + 1) (by omega))
    have e : (bytesL len n)[i] = UInt8.ofNat (strAt len n i) := by injection h1
    rw [e]
    have e2 : ((UInt8.ofNat (strAt len n i)).toNat : Int) = Int.ofNat (strAt len n i) := by
      rw [UInt8.toNat_ofNat']
      show ((strAt len n i % 2 ^ 8 : Nat) : Int) = ((strAt len n i : Nat) : Int)
      congr 1; omega
    rw [e2]; exact .int _ _
theorem strCells_src {t : TypeId} (ht : P.underlying t = some .string) {x : LV} {v : Value} {c : Nat × List LV} (hx : Rel φ x v) (h : strCells x = some c) :
    ∃ xs, Src P w 1 t v c.1 xs ∧ Rels φ c.2 xs ∧ (∀ u ∈ xs, u.oneCell' = true) := by
  cases hx with
  | str l n hn =>
    have h' : some (l, bytesRow l n 0 l) = some c := h
    cases h'
    refine ⟨_, .str ht rfl l n, ?_, fun u hu => ?_⟩
    · have := bytesRow_rel (φ := φ) l n l 0 (by omega)
      rw [List.drop_zero, List.take_of_length_le (by simp)] at this
      exact this
    · obtain ⟨b, _, rfl⟩ := List.mem_map.1 hu; rfl
  | _ => cases h

theorem gives_append (hs : Sim P φ H w) {t u ty e : TypeId} {i : TypeInfo} {z : Value} (ht : P.underlying t = some (.slice e)) (hi : P.info? e = some i) (hz : i.zero = some z) (hzs : z.cells.size = i.size) (hpos : 0 < i.size) (hby : i.bytes ≤ 65536)
    {v sv : Value} {m : Nat} {xs : List Value} (hsrc : Src P w i.size u v m xs) {news : List LV} (hr : Rels φ news xs) (ho : ∀ q ∈ xs, q.oneCell' = true) {s : LV} (hsv : Rel φ s sv) {x : LV} {H' : Heap} (h : appendTo s H i.size m news = some (x, H')) :
    MemRun P φ H w (Builtin.append_ #[t, u] ty #[sv, v]) x H' := by
  have hfit : ∀ {k old : Nat}, old < k → k ≤ 16384 → Builtin.nextslicecap k old * i.bytes ≤ 281474976710656 := fun {k old} h1 h2 =>
    growslice_fits h1 (Nat.le_trans (Nat.mul_le_mul h2 hby) (by decide))
  have hdrew : PlainW w w.drew := ⟨rfl, rfl, rfl⟩
  cases hsv with
  | nilslice =>
    have h' : ib (Nat.beq m 0) (some (LV.nilslice, H)) (appFresh H i.size m H.t (mkRow .lf 0 news)) = some (x, H') := h
    rw [ib_eq] at h'
    split at h'
    · rename_i hm
      have hm := beq_iff.1 hm
      cases h'
      exact ⟨_, w, φ, run_append_none0 ht hi hsrc hm, .nilslice, .refl hs⟩
    · rename_i hm
      have hm : m ≠ 0 := fun e => hm (beq_iff.2 e)
      obtain ⟨hle, rfl, rfl⟩ := appFresh_some h'
      have hrun := run_append_out (ty := ty) ht hi hz hsrc none 0 0 [] (by simp [Builtin.firstCells]) (by omega) (by omega) (by rw [Nat.zero_add]; exact hfit (by omega) hle)
      obtain ⟨φ', h1, h2⟩ := fresh_sound (e := e) (old := 0) hs hzs hpos hle (t := H.t) (fun _ _ h => h) hr ho hsrc.len.1 hdrew rfl
      simp only [Nat.zero_add] at hrun
      refine ⟨_, _, φ', hrun, h1, ?_⟩
      simpa using h2
  | slice off len sz cap c a hφ hlc hcm hlim hcap ha =>
    rename_i b B base lim
    have h' : ib (Nat.beq i.size sz) (appendSl H i.size b off len cap m news) none = some (x, H') := h
    rw [ib_some] at h'
    obtain ⟨hsz, h'⟩ := h'
    have hsz := beq_iff.1 hsz
    subst hsz
    unfold appendSl at h'
    obtain ⟨tr, htr, h'⟩ := om_some.1 h'
    have hb := cells_some htr
    obtain ⟨B', base', lim', hφ', hc⟩ := hs.cells hb
    obtain ⟨rfl, rfl, rfl⟩ := phi_blk hφ hφ'
    -- the way on which a new row is made
    have grow : ∀ {t' : Trie LO}, (∀ p o, t'.get p = some o → H.t.get p = some o) → (om (getRow tr off (Nat.mul len i.size)) fun old => appFresh H i.size (Nat.add len m) t' (mkRow .lf 0 (old ++ news))) = some (x, H') → c < len + m →
        MemRun P φ H w (Builtin.append_ #[t, u] ty #[.slice (some a) len c, v]) x H' := by
      intro t' hsub hg hlt
      obtain ⟨old, hold, hf⟩ := om_some.1 hg
      obtain ⟨hle, rfl, rfl⟩ := appFresh_some hf
      obtain ⟨os, hos, hcell, hone, _, hol⟩ := row_read hc hold
      have hle' : len + m ≤ 16384 := hle
      have hfirst : (Builtin.firstCells i.size len (.slice (some a) len c)).run P w.drew = .ok os.toArray w.drew := by
        refine run_firstCells_some w.drew i.size len a len c os hol fun j q hj => ?_
        rcases ha with h0 | rfl
        · have h0' : len = 0 := by omega
          subst h0'
          have : os.length = 0 := by rw [hol]; exact Nat.zero_mul _
          rw [List.getElem?_eq_none (by omega)] at hj; cases hj
        · rw [addr_add]; exact hcell j q hj
      have hrun := run_append_out (ty := ty) ht hi hz hsrc (some a) len c os hfirst hlt (by omega) (hfit hlt hle')
      obtain ⟨φ', h1, h2⟩ := fresh_sound (e := e) (old := c) hs hzs hpos hle' hsub (hos.append hr) (fun q hq => (List.mem_append.1 hq).elim (hone q) (ho q)) (by rw [List.length_append, hol, hsrc.len.1, Nat.add_mul]; rfl) hdrew rfl
      refine ⟨_, _, φ', hrun, h1, ?_⟩
      simpa using h2
    -- the way on which there is room
    have hain : len + m ≤ c → a.add (len * i.size) = ⟨B, base + (off + len * i.size), none⟩ ∨ (m = 0 ∧ c = 0) := by
      intro hle
      rcases ha with h0 | rfl
      · exact .inr ⟨by omega, h0⟩
      · exact .inl (by rw [addr_add, Nat.add_assoc])
    have hspace : len + m ≤ c → off + len * i.size + news.length ≤ lim := by
      intro hle
      rw [← hr.length, hsrc.len.1, Nat.add_assoc, ← Nat.add_mul]
      exact Nat.le_trans (Nat.add_le_add_left (Nat.mul_le_mul_right _ hle) _) hlim
    have hroom : len + m ≤ c → ∃ wr, (Builtin.append_ #[t, u] ty #[.slice (some a) len c, v]).run P w = .ok (.slice (some a) (len + m) c) wr ∧ wr = w.setCells B (base + (off + len * i.size)) xs ∧ Stp P φ H w φ (H.setO b (.cells (mkRow tr (off + len * i.size) news))) wr := by
      intro hle
      obtain ⟨h1, h2⟩ := write_row hs hb hφ hc (o := off + len * i.size) hr ho (.inr (hspace hle))
      refine ⟨_, ?_, rfl, h2⟩
      rw [run_append_in ht hi hsrc a len c hle]
      rcases hain hle with he | ⟨hm, hc0⟩
      · rw [he, h1]; rfl
      · have : xs = [] := List.eq_nil_of_length_eq_zero (by rw [hsrc.len.1, hm, Nat.zero_mul])
        subst this; rfl
    cases cap with
    | zero =>
      have h2 : (om (getRow tr off (Nat.mul len i.size)) fun old => appFresh H i.size (Nat.add len m) (H.t.put none b) (mkRow .lf 0 (old ++ news))) = some (x, H') := h'
      have hsub : ∀ p o, (H.t.put none b).get p = some o → H.t.get p = some o := by
        intro p o hp
        rw [Trie.get_put] at hp
        split at hp
        · cases hp
        · exact hp
      by_cases hle : len + m ≤ c
      · -- in place: the new name takes the old block's place
        obtain ⟨old, hold, hf⟩ := om_some.1 h2
        obtain ⟨hle2, rfl, rfl⟩ := appFresh_some hf
        obtain ⟨os, hos, hcell, hone, hol1, hol⟩ := row_read hc hold
        obtain ⟨wr, hrun, hwr, hst⟩ := hroom hle
        have hol' : os.length = len * i.size := hol
        have hnone : φ H.next = none := hs.fresh _ (Nat.le_refl _)
        have hlephi : φ.le (φ.set H.next (.blk B (base + off) (c * i.size))) := Phi.le_set hnone
        have hxl := hsrc.len.1
        have hsome : ∀ j, j < xs.length → (w.cell? ⟨B, base + (off + len * i.size) + j, none⟩).isSome = true := fun j hj => by
          have hj2 : j < m * i.size := by rw [← hxl]; exact hj
          have h5 : len * i.size + m * i.size ≤ c * i.size := by rw [← Nat.add_mul]; exact Nat.mul_le_mul_right _ hle
          have := hc.cell (off + len * i.size + j) (by omega)
          rwa [show base + (off + len * i.size + j) = base + (off + len * i.size) + j by omega] at this
        have hin2 := World.cell?_setCells_in B xs (base + (off + len * i.size)) w hsome
        have hout : ∀ k, (k < len * i.size ∨ len * i.size + xs.length ≤ k) → wr.cell? ⟨B, base + off + k, none⟩ = w.cell? ⟨B, base + off + k, none⟩ := fun k hk => by
          rw [hwr]; exact World.cell?_setCells_out B xs _ w _ (fun _ _ => by simp; omega)
        have h5 : len * i.size + m * i.size ≤ c * i.size := by rw [← Nat.add_mul]; exact Nat.mul_le_mul_right _ hle
        refine ⟨_, wr, φ.set H.next (.blk B (base + off) (c * i.size)), hrun, ?_, ?_⟩
        · refine .slice _ _ _ _ c a (Phi.set_same _ _ _) hle hcm (by simp) (.inl rfl) ?_
          rcases ha with h0 | h0
          · exact .inl h0
          · exact .inr (by rw [h0]; simp)
        · refine hs.newAt hsub (B0 := B) rfl (.inr ⟨b, _, hb, by simp [physB, hφ, Phys.block], Trie.get_put_same _ _ _⟩) hst.fr.tape hst.fr.os hst.fr.out hst.fr.size (fun k hk hkB => ?_) (.cells (Phi.set_same _ _ _) ⟨fun k hk => ?_, fun k hk => ?_, fun k y hky => ?_, Nat.lt_of_lt_of_le hc.lt hst.fr.size⟩)
          · rw [hwr]
            have : ∀ (vs : List Value) (q : Nat) (w : World), (w.setCells B q vs).heap[k]? = w.heap[k]? := by
              intro vs
              induction vs with
              | nil => intro q w; rfl
              | cons v vs ih => intro q w; rw [World.setCells, ih, heap_setCell_other _ _ _ _ hkB]
            exact this _ _ _
          · by_cases hk2 : k < len * i.size ∨ len * i.size + xs.length ≤ k
            · rw [hout k hk2]
              have := hc.cell (off + k) (by omega)
              rwa [← Nat.add_assoc] at this
            · have := hin2 (k - len * i.size) (by omega)
              rw [show base + (off + len * i.size) + (k - len * i.size) = base + off + k by omega] at this
              rw [hwr, this]; rfl
          · rw [hwr, World.frozen?_setCells]
            have := hc.free (off + k) (by omega)
            rwa [← Nat.add_assoc] at this
          · rw [getN_mkRow] at hky
            split at hky
            · rw [Nat.sub_zero] at hky
              obtain ⟨q, hq, hrq⟩ := (hos.append hr).get hky
              rw [List.getElem?_append] at hq
              split at hq
              · rename_i hlt
                rw [hol'] at hlt
                refine ⟨by omega, q, ?_, hrq.mono hlephi, hone q (List.mem_of_getElem? hq)⟩
                rw [hout k (.inl hlt)]; exact hcell k q hq
              · rename_i hge
                rw [hol'] at hge hq
                have hlt : k - len * i.size < xs.length := (List.getElem?_eq_some_iff.1 hq).1
                refine ⟨by omega, q, ?_, hrq.mono hlephi, ho q (List.mem_of_getElem? hq)⟩
                have := hin2 (k - len * i.size) hlt
                rw [show base + (off + len * i.size) + (k - len * i.size) = base + off + k by omega] at this
                rw [hwr, this, ← hq, List.getElem?_eq_getElem hlt]
            · rw [Trie.getN_lf] at hky; cases hky
      · exact grow hsub h2 (by omega)
    | succ c' =>
      have hcc : c' = c := by rcases hcap with h0 | h0 <;> omega
      subst hcc
      have h2 : ib (Nat.ble (Nat.add len m) c') (om (putRow tr (Nat.add off (Nat.mul len i.size)) news) fun t' => some (.slice b off (Nat.add len m) i.size (Nat.succ c'), H.setO b (.cells t')))
        (om (getRow tr off (Nat.mul len i.size)) fun old => appFresh H i.size (Nat.add len m) H.t (mkRow .lf 0 (old ++ news))) = some (x, H') := h'
      rw [ib_eq] at h2
      split at h2
      · rename_i hle
        have hle : len + m ≤ c' := ble_iff.1 hle
        obtain ⟨t', ht', h3⟩ := om_some.1 h2
        cases h3
        obtain ⟨wr, hrun, hwr, hst⟩ := hroom hle
        rw [(putRow_some ht').1]
        exact ⟨_, wr, φ, hrun, .slice _ _ _ _ c' a hφ hle hcm hlim (.inr rfl) ha, hst⟩
      · rename_i hle
        exact grow (fun _ _ h => h) h2 (by have : ¬ (len + m ≤ c') := fun e => hle (ble_iff.2 e); omega)
  | _ => cases h

theorem gives_copy (hs : Sim P φ H w) {t u ty e : TypeId} {sz : Nat} (ht : P.underlying t = some (.slice e)) (hsz : szOf P e = some sz) {v dv : Value} {m : Nat} {xs : List Value} (hsrc : Src P w sz u v m xs) {news : List LV} (hr : Rels φ news xs) (ho : ∀ q ∈ xs, q.oneCell' = true)
    {d : LV} (hd : Rel φ d dv) {x : LV} {H' : Heap} (h : copyTo d H sz m news = some (x, H')) : MemRun P φ H w (Builtin.copy_ #[t, u] ty #[dv, v]) x H' := by
  cases hd with
  | nilslice =>
    have h' : some (LV.int .i64 (.ofNat 0), H) = some (x, H') := h
    cases h'
    refine ⟨_, w, φ, ?_, .int _ _, .refl hs⟩
    have h0 := hsrc.first 0 (Nat.zero_le _)
    simp [Builtin.copy_, run_underlying ht, hsrc.len.2, szOf_some hsz, h0, goInt]
  | slice off len sz' cap c a hφ hlc hcm hlim hcap ha =>
    rename_i b B base lim
    have h' : ib (Nat.beq sz sz') (om (H.cells b) fun t => om (putRow t off (news.take (Nat.mul (natMin m len) sz))) fun t' => some (LV.int .i64 (.ofNat (natMin m len)), H.setO b (.cells t'))) none = some (x, H') := h
    rw [ib_some] at h'
    obtain ⟨e1, h'⟩ := h'
    have e1 := beq_iff.1 e1
    subst e1
    simp only [om_some] at h'
    obtain ⟨tr, htr, t', ht', h3⟩ := h'
    cases h3
    have hb := cells_some htr
    obtain ⟨B', base', lim', hφ', hc⟩ := hs.cells hb
    obtain ⟨rfl, rfl, rfl⟩ := phi_blk hφ hφ'
    rw [natMin_eq] at ht' ⊢
    have hk : min m len ≤ m := Nat.min_le_left _ _
    have hkl : min m len ≤ len := Nat.min_le_right _ _
    generalize hkk : min m len = k at *
    have hlen : (news.take (k * sz)).length = k * sz := by
      rw [List.length_take, ← hr.length, hsrc.len.1]; exact Nat.min_eq_left (Nat.mul_le_mul_right _ hk)
    obtain ⟨h1, h2⟩ := write_row hs hb hφ hc (o := off) (hr.take (k * sz)) (fun q hq => ho q (List.mem_of_mem_take hq)) (.inr (by rw [hlen]; exact Nat.le_trans (Nat.add_le_add_left (Nat.mul_le_mul_right _ (Nat.le_trans hkl hlc)) _) hlim))
    have hm2 : Nat.min m len = k := hkk
    have hfst := hsrc.first k hk
    rw [(putRow_some ht').1]
    refine ⟨goInt k, w.setCells B (base + off) (xs.take (k * sz)), φ, ?_, .int _ _, h2⟩
    have hcopy : (Builtin.copy_ #[t, u] ty #[.slice (some a) len c, v]).run P w = ((storeCells a (xs.take (k * sz)) 0).run P w).andThen fun _ w' => .ok (goInt k) w' := by
      simp [Builtin.copy_, run_underlying ht, hsrc.len.2, szOf_some hsz, hm2, hfst]
    rw [hcopy]
    rcases ha with h0 | rfl
    · have hk0 : k = 0 := by omega
      subst hk0
      simp [storeCells, World.setCells]
    · rw [h1]; rfl
  | _ => cases h
end
end Go.LX

