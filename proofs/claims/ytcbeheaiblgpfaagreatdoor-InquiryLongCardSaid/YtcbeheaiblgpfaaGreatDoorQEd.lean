/- The law InquiryLong: part Ed. -/
import Derived.Laws.Strings
import Derived.Laws.IdiomStrings
import Derived.Test.YtcbeheaiblgpfaaGreatDoorQEc
set_option linter.unusedVariables false
set_option linter.unusedSimpArgs false
noncomputable section
namespace Go.Ev
open Go.RowKit (Below)
section
variable {P : Program} {E : Env} {base : Nat} {w0 : World} {μ : Mu} {h : H} {w : World}
theorem aY {t : Nat} {n : Nat} (h : oh E t = n + 1) : has E t = true := by
 unfold oh at h
 unfold has
 split at h
 ·rfl
 ·cases h
theorem j5 (K : yh P E) {s f : Nat} {a v : V} {ra : Value} (ha : ze μ a ra) (hf : rE E s a f = some v) (w : World) :
  ∃ rv, (Instr.fieldAt s ra f).run P w = .ok rv w ∧ ze μ v rv := by
 unfold rE at hf
 split at hf
 ·rename_i fs b o hd
  have hu := K.desc hd (by simp)
  split at hf
  ·rename_i fd hg
   split at hf
   ·cases hf
   ·rename_i n hs
    cases hf
    cases ha with
    | ptr _ _ i hb =>
     rw [zg, Array.getElem?_toList] at hg
     refine ⟨_, ?_, ze.ptr b (o + fd.offset) i hb⟩
     simp [Instr.fieldAt, run_underlying hu, hg, Instr.sureAddr, fieldPlace, K.yj (aY hs), hs, addr_add, Nat.add_assoc]
  ·cases hf
 ·cases hf
theorem bE (K : yh P E) {t off : Nat} {cs : List V} {rcs : Array Value} {v : V} (hc : ae μ cs rcs.toList) (hp : partT E t cs off = some v) (w : World) :
  ∃ rv, (part t rcs off).run P w = .ok rv w ∧ ze μ v rv := by
 unfold partT at hp
 split at hp
 ·rename_i i ht
  have hd := (K.ty t i ht).desc
  cases hag : eG i.desc with
  | true =>
   rw [hag] at hp
   simp only [cond_true, Option.map_eq_some_iff] at hp
   obtain ⟨l, hl, rfl⟩ := hp
   obtain ⟨h1, h2, h3⟩ := (hc.drop off).take _ _ hl
   refine ⟨.agg (rcs.extract off (off + i.size)), by simp [part, rab hd, hag, K.ow ht], .agg _ _ ?_⟩
   rw [Array.toList_extract]
   simpa using h1
  | false =>
   rw [hag] at hp
   simp only [cond_false] at hp
   obtain ⟨rv, h1, h2⟩ := hc.get off v hp
   rw [Array.getElem?_toList] at h1
   exact ⟨rv, by simp [part, rab hd, hag, h1], h2⟩
 ·cases hp
theorem iao (K : yh P E) {s f : Nat} {x v : V} {rx : Value} (hx : ze μ x rx) (hf : vaj E s x f = some v) (w : World) :
  ∃ rv, (Instr.field s rx f).run P w = .ok rv w ∧ ze μ v rv := by
 unfold vaj at hf
 split at hf
 ·rename_i fs cs hd
  have hu := K.desc hd (by simp)
  split at hf
  ·rename_i fd hg
   cases hx with
   | agg _ l' hl =>
    rw [zg, Array.getElem?_toList] at hg
    obtain ⟨rv, h1, h2⟩ := bE K hl hf w
    exact ⟨rv, by simp [Instr.field, run_underlying hu, hg, asAgg, h1], h2⟩
  ·cases hf
 ·cases hf
theorem xX {n : Int} {len j : Nat} (h : idx n len = some j) : n = j ∧ j < len := by
 unfold idx at h
 split at h
 ·rename_i m
  cases hb : Nat.blt m len with
  | true =>
   rw [hb] at h
   cases h
   rw [au, decide_eq_true_eq] at hb
   exact ⟨rfl, hb⟩
  | false => rw [hb] at h; cases h
 ·cases h
theorem xZ (K : yh P E) {t : Nat} {x i v : V} {rx ri : Value} (hx : ze μ x rx) (hi : ze μ i ri) (hf : nE E t x i = some v) (w : World) :
  ∃ rv, (Instr.indexAt t rx ri).run P w = .ok rv w ∧ ze μ v rv := by
 unfold nE at hf
 split at hf
 ·rename_i len e b o k n hd
  have hu := K.desc hd (by simp)
  split at hf
  ·rename_i j hj
   obtain ⟨rfl, hlt⟩ := xX hj
   obtain ⟨hh, hf⟩ := si hf
   cases hf
   cases hi with
   | int _ _ =>
    cases hx with
    | ptr _ _ inf hb =>
     refine ⟨_, ?_, ze.ptr b _ inf hb⟩
     simp [Instr.indexAt, asIntOf, run_underlying hu, Instr.sureAddr, hlt, K.yj hh, addr_add, Nat.add_assoc]
  ·cases hf
 ·rename_i e b o len c k n hd
  have hu := K.desc hd (by simp)
  split at hf
  ·rename_i j hj
   obtain ⟨rfl, hlt⟩ := xX hj
   obtain ⟨hh, hf⟩ := si hf
   cases hf
   cases hi with
   | int _ _ =>
    cases hx with
    | slE _ _ _ c inf hb =>
     refine ⟨_, ?_, ze.ptr b _ inf hb⟩
     simp [Instr.indexAt, asIntOf, run_underlying hu, hlt, K.yj hh, addr_add, Nat.add_assoc]
    | slU _ _ _ c inf hb h1 h2 =>
     refine ⟨_, ?_, ze.ptr b _ inf hb⟩
     simp [Instr.indexAt, asIntOf, run_underlying hu, hlt, K.yj hh, addr_add, Nat.add_assoc]
    | slZ => omega
  ·cases hf
 ·cases hf
theorem pY {b : ByteArray} {s : List Nat} (h : gB b = s) {n c : Nat} (hg : bg s n = some c) : ∃ (hn : n < b.size), b[n].toNat = c := by
 rw [zg, ← h, gB, List.getElem?_map] at hg
 rw [Option.map_eq_some_iff] at hg
 obtain ⟨x, hx, rfl⟩ := hg
 have hn : n < b.size := by
  have := (List.getElem?_eq_some_iff.1 hx).1
  simpa using this
 refine ⟨hn, ?_⟩
 have := (List.getElem?_eq_some_iff.1 hx).2
 rw [← this]
 rfl
theorem qp {b : ByteArray} {s : List Nat} (h : gB b = s) : s.length = b.size := by
 rw [← h]; simp [gB]
theorem yan (K : yh P E) {t : Nat} {x i v : V} {rx ri : Value} (hx : ze μ x rx) (hi : ze μ i ri) (hf : laj E t x i = some v) (w : World) :
  ∃ rv, (Instr.index t rx ri).run P w = .ok rv w ∧ ze μ v rv := by
 unfold laj at hf
 split at hf
 ·rename_i len e cs k n hd
  have hu := K.desc hd (by simp)
  split at hf
  ·rename_i j hj
   obtain ⟨rfl, hlt⟩ := xX hj
   cases hi with
   | int _ _ =>
    cases hx with
    | agg _ l' hl =>
     obtain ⟨rv, h1, h2⟩ := bE K hl hf w
     have hh : has E e = true := by
      unfold partT at hf; unfold has; split at hf
      ·simp_all
      ·cases hf
     exact ⟨rv, by simp [Instr.index, asIntOf, run_underlying hu, hlt, K.yj hh, h1], h2⟩
  ·cases hf
 ·rename_i s k n hd
  have hu := K.desc hd (by simp)
  split at hf
  ·rename_i c hc
   cases hf
   cases hi with
   | int _ _ =>
    cases hx with
    | str _ b hb =>
     obtain ⟨hn, hcc⟩ := pY hb hc
     refine ⟨.int .u8 c, ?_, .int _ _⟩
     have hnn : (0 : Int) ≤ Int.ofNat n := Int.natCast_nonneg n
     have hget : b[n]? = some b[n] := by simp [hn]
     simp only [Instr.index, asIntOf, Sem.run_bind, Sem.run_pure, Result.andThen_ok, run_underlying hu, if_pos hnn, Int.toNat_natCast, Int.ofNat_eq_natCast, hget, hcc]
     rw [if_pos (Int.natCast_nonneg n)]
     simp only [Sem.run_pure, hcc]
  ·cases hf
 ·cases hf
theorem uP (K : yh P E) (f : Nat → V → V → Option Bool) (g : TypeId → Value → Value → Sem Bool)
  (ih : ∀ (t : Nat) (x y : V) (rx ry : Value) (r : Bool) (w : World), ze μ x rx → ze μ y ry → f t x y = some r → (g t rx ry).run P w = .ok r w)
  {xs ys : List V} {rxs rys : Array Value} (hx : ae μ xs rxs.toList) (hy : ae μ ys rys.toList) : ∀ (fs : List Field) (r : Bool) (w : World), uag f (partT E) fs xs ys = some r →
  ((forIn fs ((none, ()) : Option Bool × Unit) fun fd _ =>
    if fd.name ≠ "_" then do
     let a ← part fd.type rxs fd.offset
     let b ← part fd.type rys fd.offset
     let c ← g fd.type a b
     if (!c) = true then pure (ForInStep.done (some false, ())) else pure (ForInStep.yield (none, ()))
    else pure (ForInStep.yield (none, ()))) : Sem (Option Bool × Unit)).run P w = .ok (if r = true then (none, ()) else (some false, ())) w
 | [], r, w, h => by
  simp only [uag] at h; cases h
  simp
 | fd :: l, r, w, h => by
  simp only [uag] at h
  cases hn : (fd.name == "_") with
  | true => rw [hn] at h; cases h
  | false =>
   rw [hn] at h
   simp only [cond_false] at h
   split at h
   ·rename_i a b ha hb
    obtain ⟨ra, h1, h2⟩ := bE K hx ha w
    obtain ⟨rb, h3, h4⟩ := bE K hy hb w
    have hne : fd.name ≠ "_" := by simpa using hn
    cases he : f fd.type a b with
    | none => rw [he] at h; cases h
    | some q =>
     rw [he] at h
     have := ih _ _ _ _ _ _ w h2 h4 he
     cases q with
     | true =>
      have hrest := uP K f g ih hx hy l r w h
      simp only [List.forIn_cons, Sem.run_bind, if_pos hne, h1, Result.andThen_ok, h3, this, Bool.not_true, Bool.false_eq_true, if_false, Sem.run_pure]
      exact hrest
     | false =>
      cases h
      simp only [List.forIn_cons, Sem.run_bind, if_pos hne, h1, Result.andThen_ok, h3, this, Bool.not_false, if_true, Sem.run_pure, Bool.false_eq_true, if_false]
   ·cases h
theorem dU (K : yh P E) (e n : Nat) (f : V → V → Option Bool) (g : Value → Value → Sem Bool)
  (ih : ∀ (x y : V) (rx ry : Value) (r : Bool) (w : World), ze μ x rx → ze μ y ry → f x y = some r → (g rx ry).run P w = .ok r w)
  {xs ys : List V} {rxs rys : Array Value} (hx : ae μ xs rxs.toList) (hy : ae μ ys rys.toList) : ∀ (k i : Nat) (r : Bool) (w : World), sag f (partT E e) n k i xs ys = some r →
  ((forIn (List.range' i k) ((none, ()) : Option Bool × Unit) fun j _ => do
     let a ← part e rxs (j * n)
     let b ← part e rys (j * n)
     let c ← g a b
     if (!c) = true then pure (ForInStep.done (some false, ())) else pure (ForInStep.yield (none, ()))) : Sem (Option Bool × Unit)).run P w = .ok (if r = true then (none, ()) else (some false, ())) w
 | 0, i, r, w, h => by
  simp only [sag] at h; cases h
  simp
 | k + 1, i, r, w, h => by
  simp only [sag] at h
  split at h
  ·rename_i a b ha hb
   obtain ⟨ra, h1, h2⟩ := bE K hx ha w
   obtain ⟨rb, h3, h4⟩ := bE K hy hb w
   cases he : f a b with
   | none => rw [he] at h; cases h
   | some q =>
    rw [he] at h
    have := ih _ _ _ _ _ w h2 h4 he
    cases q with
    | true =>
     have hrest := dU K e n f g ih hx hy k (i + 1) r w h
     simp only [List.range'_succ, List.forIn_cons, Sem.run_bind, h1, Result.andThen_ok, h3, this, Bool.not_true, Bool.false_eq_true, if_false, Sem.run_pure]
     exact hrest
    | false =>
     cases h
     simp only [List.range'_succ, List.forIn_cons, Sem.run_bind, h1, Result.andThen_ok, h3, this, Bool.not_false, if_true, Sem.run_pure, Bool.false_eq_true, if_false]
  ·cases h
theorem war {k k' : IntKind} {x : Option Bool} {r : Bool} (h : (bif keq k k' then x else none) = some r) : k = k' ∧ x = some r := by
 obtain ⟨h1, h2⟩ := si h
 rw [qX, decide_eq_true_eq] at h1
 exact ⟨h1, h2⟩
theorem gJ {a b : ByteArray} {s t : List Nat} (ha : gB a = s) (hb : gB b = t) : cu s t = (a == b) := by
 have e : (a == b) = (a.data == b.data) := rfl
 rw [e, dO, Bool.eq_iff_iff, decide_eq_true_eq, beq_iff_eq, ← ha, ← hb]
 constructor
 ·intro h
  have : a.data.toList = b.data.toList := List.map_inj_right (fun x y hxy => UInt8.toNat_inj.1 hxy) |>.1 h
  exact Array.toList_inj.1 this
 ·intro h; simp only [gB, h]
set_option maxHeartbeats 2000000 in
theorem mas (K : yh P E) (k : yg E base w0 μ h w) : ∀ (d : Nat) (t : Nat) (x y : V) (rx ry : Value) (r : Bool) (w' : World), ze μ x rx → ze μ y ry → eqT E d t x y = some r → (Op.equalIn (9940 + d) t rx ry).run P w' = .ok r w'
 | 0, _, _, _, _, _, _, _, _, _, h => by cases h
 | d + 1, t, x, y, rx, ry, r, w', hx, hy, h => by
  have ih := mas K k d
  simp only [eqT] at h
  split at h
  ·cases h
  ·rename_i i ht
   have hu := (K.ty t i ht).desc
   show (Op.equalIn ((9940 + d) + 1) t rx ry).run P w' = _
   split at h
   ·rename_i a b hd; rw [hd] at hu; cases hx; cases hy; cases h; simp [Op.equalIn, run_underlying hu]
   ·rename_i ik a' a b' b hd; rw [hd] at hu; obtain ⟨rfl, h2⟩ := war h; cases hx; cases hy; cases h2; simp [Op.equalIn, run_underlying hu, dD]
    rfl
   ·rename_i a b hd; rw [hd] at hu
    cases hx with
    | str _ ba hba => cases hy with
     | str _ bb hbb =>
      cases h; simp [Op.equalIn, run_underlying hu, gJ hba hbb]
   ·rename_i e hd; rw [hd] at hu; cases hx; cases hy; cases h; simp [Op.equalIn, run_underlying hu]
   ·rename_i e b o hd; rw [hd] at hu; cases hx; cases hy; cases h; simp [Op.equalIn, run_underlying hu]
   ·rename_i e b o hd; rw [hd] at hu; cases hx; cases hy; cases h; simp [Op.equalIn, run_underlying hu]
   ·rename_i e a o b p hd; rw [hd] at hu
    split at h
    ·cases h
    ·rename_i n hs
     obtain ⟨hab, h2⟩ := si h
     rw [fq, decide_eq_true_eq] at hab
     clear h
     subst hab
     cases hx with
     | ptr _ _ i1 hb1 => cases hy with
      | ptr _ _ i2 hb2 =>
       rw [hb1] at hb2; cases hb2
       cases h2
       simp [Op.equalIn, run_underlying hu, K.yj (aY hs), hs, sameAddr, fq]
       rw [Bool.eq_iff_iff]; simp
   ·rename_i ms hd; rw [hd] at hu; cases hx; cases hy; cases h; simp [Op.equalIn, run_underlying hu]
   ·rename_i ms t' v' hd; rw [hd] at hu; cases hx; cases hy; cases h; simp [Op.equalIn, run_underlying hu]
   ·rename_i ms t' v' hd; rw [hd] at hu; cases hx; cases hy; cases h; simp [Op.equalIn, run_underlying hu]
   ·rename_i fs xs ys hd; rw [hd] at hu
    obtain ⟨hq, h⟩ := si h
    have hst := ((K.ty t i ht).eqok hq).stood
    cases hx with
    | agg _ lx hlx => cases hy with
     | agg _ ly hly =>
      have hl := uP (μ := μ) K (eqT E d) (Op.equalIn (9940 + d)) (fun t x y rx ry r w h1 h2 h3 => ih t x y rx ry r w h1 h2 h3) hlx hly fs.toList r w' h
      rw [Array.forIn_toList] at hl
      simp only [Op.equalIn, Sem.run_bind, run_underlying hu, Result.andThen_ok, run_program, hst, Bool.false_eq_true, if_false, hl]
      cases r <;> rfl
   ·rename_i len e xs ys hd; rw [hd] at hu
    obtain ⟨hh, h2⟩ := si h
    cases hx with
    | agg _ lx hlx => cases hy with
     | agg _ ly hly =>
      have hl := dU (μ := μ) K e (oh E e) (eqT E d e) (Op.equalIn (9940 + d) e) (fun x y rx ry r w h1 h2 h3 => ih e x y rx ry r w h1 h2 h3) hlx hly len 0 r w' h2
      have hrange : ([:len] : Std.Legacy.Range) = ⟨0, len, 1, by decide⟩ := rfl
      simp only [Op.equalIn, Sem.run_bind, run_underlying hu, Result.andThen_ok, K.yj hh]
      rw [Std.Legacy.Range.forIn_eq_forIn_range']
      simp only [Std.Legacy.Range.size, Nat.sub_zero, Nat.add_sub_cancel, Nat.div_one]
      rw [hl]
      cases r <;> rfl
   ·rename_i e hd; rw [hd] at hu; cases hx; cases hy; cases h; simp [Op.equalIn, run_underlying hu]
   ·rename_i e b o n c hd; rw [hd] at hu; cases hx; cases hy <;> cases h <;> simp [Op.equalIn, run_underlying hu]
   ·rename_i e b o n c hd; rw [hd] at hu; cases hy; cases hx <;> cases h <;> simp [Op.equalIn, run_underlying hu]
   ·rename_i a b hd; rw [hd] at hu; cases hx; cases hy; cases h; simp [Op.equalIn, run_underlying hu]
   ·rename_i a b c hd; rw [hd] at hu; cases hx; cases hy; cases h; simp [Op.equalIn, run_underlying hu]
   ·rename_i a b c hd; rw [hd] at hu; cases hx; cases hy; cases h; simp [Op.equalIn, run_underlying hu]
   ·rename_i a b c hd; rw [hd] at hu; cases hx; cases hy; cases h; simp [Op.equalIn, run_underlying hu]
   ·rename_i a b c hd; rw [hd] at hu; cases hx; cases hy; cases h; simp [Op.equalIn, run_underlying hu]
   ·rename_i a b c hd; rw [hd] at hu; cases hx; cases hy; cases h; simp [Op.equalIn, run_underlying hu]
   ·cases h
end
end Go.Ev
end
noncomputable section
namespace Go.Ev
open Go.RowKit (Below)
theorem vH {k : IntKind} {n : Int} (h : inR k n = true) : k.wrap n = n := by
 unfold inR at h
 split at h
 ·rw [au, decide_eq_true_eq] at h
  simp only [IntKind.wrap, IntKind.bits, IntKind.signed]
  simp
  omega
 ·rw [au, decide_eq_true_eq] at h
  simp only [IntKind.wrap, IntKind.bits, IntKind.signed]
  simp
  omega
 ·rw [au, decide_eq_true_eq] at h
  simp only [IntKind.wrap, IntKind.bits, IntKind.signed]
  simp
  omega
 ·rw [au, decide_eq_true_eq] at h
  simp only [IntKind.wrap, IntKind.bits, IntKind.signed]
  simp
  omega
 ·cases h
theorem rA (k : IntKind) (n : Int) : uA k n = k.wrap n := by
 unfold uA
 cases h : inR k n with
 | true => simp [vH h]
 | false => rfl
theorem tV (k : IntKind) (x : Nat) : k.wrap ((x % 2 ^ k.bits : Nat) : Int) = k.wrap (x : Int) := by
 have : (((x % 2 ^ k.bits : Nat) : Int)) % (2 ^ k.bits : Int) = (x : Int) % (2 ^ k.bits : Int) := by
  rw [Int.natCast_emod]
  simp
 simp only [IntKind.wrap, this]
theorem kaj {P : Program} {op : BinOp} {k : IntKind} {x y r : Int} (h : uX op k x y = some r) (w : World) : (Op.intBits op k x y).run P w = .ok (.int k r) w := by
 unfold uX at h
 split at h
 ·rename_i a b
  cases h
  simp only [Op.intBits, Int.ofNat_eq_natCast, BitVec.ofInt_natCast, BitVec.toNat_and, BitVec.toNat_ofNat, rA, Sem.run_pure]
  rw [← Nat.and_mod_two_pow, tV]
  rfl
 ·rename_i a b
  obtain ⟨h1, h2⟩ := si h
  cases h2
  simp only [Op.intBits, Int.ofNat_eq_natCast, BitVec.ofInt_natCast, BitVec.toNat_or, BitVec.toNat_ofNat, Sem.run_pure]
  rw [← Nat.or_mod_two_pow, tV]
  exact congrArg (fun z => Result.ok (Value.int k z) w) (vH h1)
 ·rename_i a b
  obtain ⟨h1, h2⟩ := si h
  cases h2
  simp only [Op.intBits, Int.ofNat_eq_natCast, BitVec.ofInt_natCast, BitVec.toNat_xor, BitVec.toNat_ofNat, Sem.run_pure]
  rw [← Nat.xor_mod_two_pow, tV]
  exact congrArg (fun z => Result.ok (Value.int k z) w) (vH h1)
 ·cases h
theorem rae {P : Program} {op : BinOp} {k yk : IntKind} {x y r : Int} (h : mW op k x y = some r) (w : World) : (Op.shift op k x yk y).run P w = .ok (.int k r) w := by
 unfold mW at h
 split at h
 ·rename_i a n
  obtain ⟨h1, h2⟩ := si h
  cases h2
  rw [au, decide_eq_true_eq] at h1
  have hn : ¬ ((Int.ofNat n) < 0) := by simp
  simp only [Op.shift, Int.ofNat_eq_natCast, Int.toNat_natCast, Nat.min_eq_left (Nat.le_of_lt h1), rA]
  rw [if_neg (by omega), Sem.run_pure]
  simp
 ·rename_i a n
  obtain ⟨h1, h2⟩ := si h
  cases h2
  rw [au, decide_eq_true_eq] at h1
  have hn : ¬ ((Int.ofNat n) < 0) := by simp
  have e : (Int.ofNat a).fdiv (2 ^ n) = Int.ofNat (a / 2 ^ n) := by
   rw [Int.fdiv_eq_ediv_of_nonneg _ (Int.pow_nonneg (by decide))]
   simp
  simp only [Op.shift, if_neg hn, Int.ofNat_eq_natCast, Int.toNat_natCast, Nat.min_eq_left (Nat.le_of_lt h1), Sem.run_pure] at e ⊢
  rw [if_neg (by omega), Sem.run_pure, e]
 ·cases h
theorem dah {α : Type} {b : Bool} {x : Option α} {y : α} (h : (bif b then none else x) = some y) : b = false ∧ x = some y := by
 cases b
 ·exact ⟨rfl, h⟩
 ·cases h
theorem tao {P : Program} {op : BinOp} {k : IntKind} {a b : Int} {v : V} (hop : op ≠ .shl ∧ op ≠ .shr) (h : tY op k a b = some v) (t : Nat) (w : World) :
  ∃ rv, (binOp op t (.int k a) (.int k b)).run P w = .ok rv w ∧ ∀ μ, ze μ v rv := by
 obtain ⟨h1, h2⟩ := hop
 cases op <;> simp only [tY] at h
 case shl => exact absurd rfl h1
 case shr => exact absurd rfl h2
 case add => cases h; exact ⟨.int k (k.wrap (a + b)), by simp only [binOp, ne_eq, not_true_eq_false, if_false, Op.intArith, Sem.run_pure], fun μ => by rw [rA]; exact .int _ _⟩
 case sub => cases h; exact ⟨.int k (k.wrap (a - b)), by simp only [binOp, ne_eq, not_true_eq_false, if_false, Op.intArith, Sem.run_pure], fun μ => by rw [rA]; exact .int _ _⟩
 case mul => cases h; exact ⟨.int k (k.wrap (a * b)), by simp only [binOp, ne_eq, not_true_eq_false, if_false, Op.intArith, Sem.run_pure], fun μ => by rw [rA]; exact .int _ _⟩
 case quo =>
  have hh : b ≠ 0 ∧ v = .int k (k.wrap (a.tdiv b)) := by
   split at h
   ·cases h; rw [rA]; exact ⟨by simp; omega, rfl⟩
   ·obtain ⟨h3, h4⟩ := dah h; cases h4; rw [dD, decide_eq_false_iff_not] at h3; rw [rA]; exact ⟨h3, rfl⟩
  obtain ⟨hb, rfl⟩ := hh
  exact ⟨.int k (k.wrap (a.tdiv b)), by simp only [binOp, ne_eq, not_true_eq_false, if_false, Op.intDiv, if_neg hb, Sem.run_pure], fun μ => .int _ _⟩
 case rem =>
  have hh : b ≠ 0 ∧ v = .int k (a.tmod b) := by
   split at h
   ·cases h; exact ⟨by simp; omega, rfl⟩
   ·obtain ⟨h3, h4⟩ := dah h; cases h4; rw [dD, decide_eq_false_iff_not] at h3; exact ⟨h3, rfl⟩
  obtain ⟨hb, rfl⟩ := hh
  exact ⟨.int k (a.tmod b), by simp only [binOp, ne_eq, not_true_eq_false, if_false, Op.intDiv, if_neg hb, Sem.run_pure], fun μ => .int _ _⟩
 case eql =>
  cases h
  refine ⟨.bool (a == b), by simp only [binOp, ne_eq, not_true_eq_false, if_false, Op.intCmp, Sem.run_pure], fun μ => ?_⟩
  have e : ∀ x : Bool, x = (a == b) → ze μ (.bool x) (.bool (a == b)) := fun x hx => hx ▸ .bool _
  refine e _ ?_
  simp only [dD, xJ]
  all_goals (try rw [Bool.eq_iff_iff])
  all_goals simp
 case neq =>
  cases h
  refine ⟨.bool (a != b), by simp only [binOp, ne_eq, not_true_eq_false, if_false, Op.intCmp, Sem.run_pure], fun μ => ?_⟩
  have e : ∀ x : Bool, x = (a != b) → ze μ (.bool x) (.bool (a != b)) := fun x hx => hx ▸ .bool _
  refine e _ ?_
  simp only [dD, xJ]
  all_goals (try rw [Bool.eq_iff_iff])
  all_goals simp
 case lss =>
  cases h
  refine ⟨.bool (decide (a < b)), by simp only [binOp, ne_eq, not_true_eq_false, if_false, Op.intCmp, Sem.run_pure], fun μ => ?_⟩
  have e : ∀ x : Bool, x = (decide (a < b)) → ze μ (.bool x) (.bool (decide (a < b))) := fun x hx => hx ▸ .bool _
  refine e _ ?_
  simp only [dD, xJ]
  all_goals (try rw [Bool.eq_iff_iff])
  all_goals simp
 case leq =>
  cases h
  refine ⟨.bool (decide (a ≤ b)), by simp only [binOp, ne_eq, not_true_eq_false, if_false, Op.intCmp, Sem.run_pure], fun μ => ?_⟩
  have e : ∀ x : Bool, x = (decide (a ≤ b)) → ze μ (.bool x) (.bool (decide (a ≤ b))) := fun x hx => hx ▸ .bool _
  refine e _ ?_
  simp only [dD, xJ]
  all_goals (try rw [Bool.eq_iff_iff])
  all_goals simp
 case gtr =>
  cases h
  refine ⟨.bool (decide (a > b)), by simp only [binOp, ne_eq, not_true_eq_false, if_false, Op.intCmp, Sem.run_pure], fun μ => ?_⟩
  have e : ∀ x : Bool, x = (decide (a > b)) → ze μ (.bool x) (.bool (decide (a > b))) := fun x hx => hx ▸ .bool _
  refine e _ ?_
  simp only [dD, xJ]
  all_goals (try rw [Bool.eq_iff_iff])
  all_goals simp
 case geq =>
  cases h
  refine ⟨.bool (decide (a ≥ b)), by simp only [binOp, ne_eq, not_true_eq_false, if_false, Op.intCmp, Sem.run_pure], fun μ => ?_⟩
  have e : ∀ x : Bool, x = (decide (a ≥ b)) → ze μ (.bool x) (.bool (decide (a ≥ b))) := fun x hx => hx ▸ .bool _
  refine e _ ?_
  simp only [dD, xJ]
  all_goals (try rw [Bool.eq_iff_iff])
  all_goals simp
 all_goals
  rw [Option.map_eq_some_iff] at h
  obtain ⟨r, h, rfl⟩ := h
  exact ⟨.int k r, by simp only [binOp, ne_eq, not_true_eq_false, if_false, kaj h], fun μ => .int _ _⟩
theorem maq (a b : List UInt8) : strLt (a.map UInt8.toNat) (b.map UInt8.toNat) = Op.bytesLess a b := by
 induction a generalizing b with
 | nil => cases b <;> rfl
 | cons x a ih => cases b with
  | nil => rfl
  | cons y b =>
   simp only [List.map_cons, strLt, ih, Op.bytesLess, au, fq]
   by_cases h1 : x.toNat < y.toNat
   ·have : x < y := UInt8.lt_iff_toNat_lt.2 h1
    simp [h1, this]
   ·have h1' : ¬ x < y := fun h => h1 (UInt8.lt_iff_toNat_lt.1 h)
    by_cases h2 : x.toNat = y.toNat
    ·have : x = y := UInt8.toNat_inj.1 h2
     simp [this]
    ·have : x ≠ y := fun h => h2 (h ▸ rfl)
     simp [h1, h2, h1', this]
theorem cah (a b : ByteArray) : gB (a ++ b) = gB a ++ gB b := by simp [gB]
theorem kD (a : ByteArray) : a.toList = a.data.toList := ByteArray.toList_eq a
theorem sao {P : Program} {op : BinOp} {s t : List Nat} {a b : ByteArray} {v : V} (ha : gB a = s) (hb : gB b = t) (h : gak op s t = some v) (w : World) :
  ∃ rv, (Op.stringOp op a b).run P w = .ok rv w ∧ ∀ μ, ze μ v rv := by
 have hs := qp ha
 have ht := qp hb
 have heq : cu s t = (a.toList == b.toList) := by
  rw [gJ ha hb, kD, kD]
  have e : (a == b) = (a.data == b.data) := rfl
  rw [e, Bool.eq_iff_iff, beq_iff_eq, beq_iff_eq]
  exact Array.toList_inj.symm
 have hlt : strLt s t = Op.bytesLess a.toList b.toList := by
  rw [← ha, ← hb, kD, kD]; exact maq _ _
 have e : ∀ x y : Bool, x = y → ∀ μ, ze μ (.bool x) (.bool y) := fun x y hx μ => hx ▸ .bool _
 cases op <;> simp only [gak] at h
 case add =>
  obtain ⟨h1, h2⟩ := si h
  cases h2
  rw [bu, decide_eq_true_eq, ll, ll] at h1
  refine ⟨.string (a ++ b), ?_, fun μ => .str _ _ (by rw [cah, pz, ha, hb])⟩
  have : ¬ (((a.size + b.size : Nat) : Int) > IntKind.i64.max) := by
   simp only [IntKind.max, IntKind.signed, IntKind.bits]
   simp
   omega
  simp only [Op.stringOp, if_neg this, Sem.run_pure]
 case eql => cases h; exact ⟨_, rfl, e _ _ heq⟩
 case neq => cases h; exact ⟨_, rfl, e _ _ (by rw [heq])⟩
 case lss => cases h; exact ⟨_, rfl, e _ _ hlt⟩
 case leq => cases h; exact ⟨_, rfl, e _ _ (by rw [heq, hlt])⟩
 case gtr => cases h; exact ⟨_, rfl, e _ _ (by rw [heq, hlt])⟩
 case geq => cases h; exact ⟨_, rfl, e _ _ (by rw [hlt])⟩
 all_goals cases h
section
variable {P : Program} {E : Env} {base : Nat} {w0 : World} {μ : Mu} {h : H} {w : World}
theorem xM (K : yh P E) (k : yg E base w0 μ h w) {t : Nat} {x y : V} {rx ry : Value} {r : Bool} (hx : ze μ x rx) (hy : ze μ y ry) (he : eqT E 60 t x y = some r) (w' : World) :
  (Op.equal t rx ry).run P w' = .ok r w' := mas K k 60 t x y rx ry r w' hx hy he
theorem aQ (E : Env) (d t : Nat) (x y : V) (r : Bool) (h : eqT E d t x y = some r) : x ≠ .bad ∧ y ≠ .bad := by
 cases d with
 | zero => cases h
 | succ d =>
  simp only [eqT] at h
  split at h
  ·cases h
  ·split at h <;> first | (cases h; done) | (exact ⟨by simp, by simp⟩)
set_option maxHeartbeats 2000000 in
theorem zaw (K : yh P E) (k : yg E base w0 μ h w) {op : BinOp} {t : Nat} {x y v : V} {rx ry : Value} (hx : ze μ x rx) (hy : ze μ y ry) (hb : mad E op t x y = some v) (w' : World) :
  ∃ rv, (binOp op t rx ry).run P w' = .ok rv w' ∧ ze μ v rv := by
 unfold mad at hb
 split at hb
 ·rename_i k1 a k2 b
  cases hx; cases hy
  split at hb
  ·rw [Option.map_eq_some_iff] at hb
   obtain ⟨r, hb, rfl⟩ := hb
   exact ⟨.int k1 r, by simp only [binOp, rae hb], .int _ _⟩
  ·rw [Option.map_eq_some_iff] at hb
   obtain ⟨r, hb, rfl⟩ := hb
   exact ⟨.int k1 r, by simp only [binOp, rae hb], .int _ _⟩
  ·rename_i h1 h2
   obtain ⟨hk, hb2⟩ := si hb
   rw [qX, decide_eq_true_eq] at hk
   clear hb
   subst hk
   obtain ⟨rv, g1, g2⟩ := tao (P := P) ⟨fun e => h1 e, fun e => h2 e⟩ hb2 t w'
   exact ⟨rv, g1, g2 μ⟩
 ·rename_i s u
  cases hx with
  | str _ a ha => cases hy with
   | str _ b hb' =>
    obtain ⟨rv, g1, g2⟩ := sao (P := P) ha hb' hb w'
    exact ⟨rv, by cases op <;> simpa only [binOp] using g1, g2 μ⟩
 ·rename_i n1 n2
  split at hb
  ·rw [Option.map_eq_some_iff] at hb
   obtain ⟨r, hb, rfl⟩ := hb
   have he := xM (P := P) K k hx hy hb w'
   refine ⟨.bool r, ?_, .bool _⟩
   have hs := aQ _ _ _ _ _ _ hb
   cases hx <;> cases hy <;> first
    | (exact absurd rfl (n1 _ _ _ _ rfl ·))
    | (simp only [binOp, Sem.run_bind, he, Result.andThen_ok, Sem.run_pure]; done)
    | (exfalso; simp_all; done)
    | (exfalso; exact n1 _ _ _ _ rfl rfl)
    | (exfalso; exact n2 _ _ rfl rfl)
  ·rw [Option.map_eq_some_iff] at hb
   obtain ⟨r, hb, rfl⟩ := hb
   have he := xM (P := P) K k hx hy hb w'
   refine ⟨.bool (!r), ?_, .bool _⟩
   have hs := aQ _ _ _ _ _ _ hb
   cases hx <;> cases hy <;> first
    | (simp only [binOp, Sem.run_bind, he, Result.andThen_ok, Sem.run_pure]; done)
    | (exfalso; simp_all; done)
    | (exfalso; exact n1 _ _ _ _ rfl rfl)
    | (exfalso; exact n2 _ _ rfl rfl)
  ·cases hb
theorem fak {op : BinOp} {t : Nat} {x y v : V} (hb : mad E op t x y = some v) : x ≠ .bad ∧ y ≠ .bad := by
 unfold mad at hb
 split at hb
 ·exact ⟨by simp, by simp⟩
 ·exact ⟨by simp, by simp⟩
 ·split at hb
  ·rw [Option.map_eq_some_iff] at hb; obtain ⟨r, hb, _⟩ := hb; exact aQ _ _ _ _ _ _ hb
  ·rw [Option.map_eq_some_iff] at hb; obtain ⟨r, hb, _⟩ := hb; exact aQ _ _ _ _ _ _ hb
  ·cases hb
theorem das (K : yh P E) {t : Nat} {x y : Operand} {a b : V} {ra rb : Value} (ha : ze μ a ra) (hb : ze μ b rb)
  (hg : nC E t x y a b = true) (hna : a ≠ .bad ∧ b ≠ .bad) (op : BinOp) (w' : World) : (eqGuard op t x y ra rb).run P w' = .ok () w' := by
 unfold eqGuard
 cases hop : (!(op matches .eql | .neq)) with
 | true => rfl
 | false =>
  cases ha with
  | bad => exact absurd rfl hna.1
  | nilif =>
   cases hb with
   | bad => exact absurd rfl hna.2
   | nilif =>
    simp only [nC, Bool.or_eq_true] at hg
    rcases hg with hg | hg
    ·cases x <;> first | (cases hg; done) | (simp only [Bool.false_eq_true, if_false, Bool.true_or, if_true]; rfl)
    ·cases y <;> first | (cases hg; done) | (simp only [Bool.false_eq_true, if_false, Bool.or_true, if_true]; rfl)
   | _ => rfl
  | agg _ l hl =>
   cases hb with
   | bad => exact absurd rfl hna.2
   | agg _ m hm =>
    simp only [nC] at hg
    split at hg
    ·rename_i i ht
     have := ((K.ty t i ht).eqok hg).guard
     simp only [Bool.false_eq_true, if_false, Sem.run_bind, run_program, Result.andThen_ok, this, Bool.not_false, if_true]
     rfl
    ·cases hg
   | _ => rfl
  | _ => cases hb <;> rfl
theorem dam (K : yh P E) (k : yg E base w0 μ h w) {tm : List V} {op : BinOp} {t : Nat} {x y : Operand} {rx ry : Value} (hx : ze μ (ev E tm x) rx) (hy : ze μ (ev E tm y) ry) {v : V}
  (hb : mad E op t (ev E tm x) (ev E tm y) = some v) (hg : wR op = true → nC E t x y (ev E tm x) (ev E tm y) = true) (w' : World) :
  ∃ rv, (do eqGuard op t x y rx ry; binOp op t rx ry : Sem Value).run P w' = .ok rv w' ∧ ze μ v rv := by
 obtain ⟨rv, h1, h2⟩ := zaw K k hx hy hb w'
 have hgd : (eqGuard op t x y rx ry).run P w' = .ok () w' := by
  cases hop : wR op with
  | true => exact das K hx hy (hg hop) (fak hb) op w'
  | false =>
   cases op <;> first | (simp [wR] at hop; done) | rfl
 exact ⟨rv, by simp only [Sem.run_bind, hgd, Result.andThen_ok, h1], h2⟩
theorem naI {op : UnOp} {x v : V} {rx : Value} (hx : ze μ x rx) (hu : unT op x = some v) (w' : World) : ∃ rv, (Op.unary op rx).run P w' = .ok rv w' ∧ ze μ v rv := by
 unfold unT at hu
 split at hu
 ·cases hu; cases hx
  exact ⟨.int _ (IntKind.wrap _ (0 - _)), rfl, by rw [rA]; exact .int _ _⟩
 ·cases hu; cases hx
  exact ⟨.bool _, rfl, .bool _⟩
 ·cases hu
end
end Go.Ev
end
noncomputable section
namespace Go.Ev
open Go.RowKit (Below)
def Got (E : Env) (base : Nat) (w0 : World) (μ : Mu) (h : H) (r : Res) (res : Result Next) : Prop :=
 match r with
 | .val v h' => ∃ μ' rv w', res = .ok (.value rv) w' ∧ sj μ h.next μ' ∧ yg E base w0 μ' h' w' ∧ ze μ' v rv
 | .skip h' => ∃ w', res = .ok .skip w' ∧ yg E base w0 μ h' w'
 | .enter f args => ∃ rargs w', res = .ok (.enter f rargs) w' ∧ yg E base w0 μ h w' ∧ ae μ args rargs.toList
 | .defer d => ∃ d' w', res = .ok (.defer d') w' ∧ yg E base w0 μ h w' ∧ mZ μ d d'
 | .recover => ∃ w', res = .ok .recover w' ∧ yg E base w0 μ h w'
 | .panic v h' => ∃ rv w', res = .halt (.panic rv) w' ∧ yg E base w0 μ h' w' ∧ ze μ v rv
 | .round l f tm a b => ∃ i rtm w', res = .ok (.round i.r f rtm a b) w' ∧ yg E base w0 μ h w' ∧ μ l = some i ∧ ae μ tm rtm.toList
 | .alts l => ∃ v h', (v, h') ∈ l ∧ ∃ μ' rv w', res = .ok (.value rv) w' ∧ sj μ h.next μ' ∧ yg E base w0 μ' h' w' ∧ ze μ' v rv
 | .fail _ => True
section
variable {P : Program} {E : Env} {base : Nat} {w0 : World} {μ : Mu} {h : H} {w : World}
def il (E : Env) (base : Nat) (w0 : World) (μ : Mu) (h : H) (r : Res) (res : Result Value) : Prop :=
 match r with
 | .val v h' => ∃ μ' rv w', res = .ok rv w' ∧ sj μ h.next μ' ∧ yg E base w0 μ' h' w' ∧ ze μ' v rv
 | .alts l => ∃ v h', (v, h') ∈ l ∧ ∃ μ' rv w', res = .ok rv w' ∧ sj μ h.next μ' ∧ yg E base w0 μ' h' w' ∧ ze μ' v rv
 | .panic v h' => ∃ rv w', res = .halt (.panic rv) w' ∧ yg E base w0 μ h' w' ∧ ze μ v rv
 | .fail _ => True
 | _ => False
theorem il.ofO (k : yg E base w0 μ h w) {o : Option V} {n : Nat} {res : Result Value} (hh : ∀ v, o = some v → ∃ rv, res = .ok rv w ∧ ze μ v rv) : il E base w0 μ h (Go.Ev.ofO o h n) res := by
 cases o with
 | none => trivial
 | some v => obtain ⟨rv, h1, h2⟩ := hh v rfl; exact ⟨μ, rv, w, h1, sj.refl _ _, k, h2⟩
theorem il.next {r : Res} {s : Sem Value} (g : il E base w0 μ h r (s.run P w)) : Got E base w0 μ h r ((do pure (.value (← s)) : Sem Next).run P w) := by
 rw [Sem.run_bind]
 cases r with
 | val v h' => obtain ⟨μ', rv, w', h1, h2⟩ := g; exact ⟨μ', rv, w', by rw [h1]; rfl, h2⟩
 | alts l => obtain ⟨v, h', hm, μ', rv, w', h1, h2⟩ := g; exact ⟨v, h', hm, μ', rv, w', by rw [h1]; rfl, h2⟩
 | panic v h' => obtain ⟨rv, w', h1, h2⟩ := g; exact ⟨rv, w', by rw [h1]; rfl, h2⟩
 | fail n => trivial
 | _ => exact g.elim
theorem same (k : yg E base w0 μ h w) {v : V} {rv : Value} (hv : ze μ v rv) {res : Result Value} (hr : res = .ok rv w) : il E base w0 μ h (.val v h) res := ⟨μ, rv, w, hr, sj.refl _ _, k, hv⟩
theorem jI (μ : Mu) : ∀ l : List UInt8, ae μ (iG (l.map UInt8.toNat)) (l.map fun b => Value.int .u8 b.toNat)
 | [] => .nil
 | b :: l => .cons _ _ _ _ (.int _ _) (jI μ l)
theorem dM : ∀ l : List Nat, (iG l).length = l.length
 | [] => rfl
 | _ :: l => by simp [iG, dM l]
theorem mM {μ : Mu} : ∀ (l : List V) (rl : List Value) (s : List Nat), ae μ l rl → nM l = some s → ∃ bs : List UInt8, bs.map UInt8.toNat = s ∧ rl = bs.map fun b => Value.int .u8 b.toNat
 | [], _, s, .nil, h => by simp only [nM] at h; cases h; exact ⟨[], rfl, rfl⟩
 | x :: l, _, s, .cons _ y _ l' hx hl, h => by
  cases hx with
  | int k n =>
   cases k <;> cases n <;> simp only [nM] at h <;> try (cases h; done)
   rename_i m
   obtain ⟨h1, h⟩ := si h
   rw [au, decide_eq_true_eq] at h1
   split at h
   ·rename_i r hr
    cases h
    obtain ⟨bs, g1, g2⟩ := mM l l' r hl hr
    have e : (UInt8.ofNat m).toNat = m := by simp; omega
    refine ⟨UInt8.ofNat m :: bs, by simp only [List.map_cons, e, g1], ?_⟩
    simp only [List.map_cons, g2, e]
    rfl
   ·cases h
  | _ => simp only [nM] at h; cases h
theorem grownCap_ge (w : World) (n old e : Nat) : n ≤ grownCap w n old e := by
 simp only [grownCap, Question.cut]
 omega
theorem pah (K : yh P E) (k : yg E base w0 μ h w) {tm : List V} {s d : Nat} {x : Operand} {rx : Value} (hx : ze μ (ev E tm x) rx) :
  il E base w0 μ h (iB E tm s d x h) ((convert s d rx).run P w) := by
 unfold iB
 cases hs : has E s with
 | false => trivial
 | true =>
  simp only [cond_true]
  obtain ⟨is, his⟩ : ∃ i, E.ty.get s = some i := by unfold has at hs; split at hs; exact ⟨_, ‹_›⟩; cases hs
  have hus := (K.ty s is his).desc
  split
  ·rename_i kd n kk m hd hv
   rw [hv] at hx
   have hu := K.desc hd (by simp)
   cases hx
   refine same k (.int _ _) ?_
   simp [convert, run_underlying hus, run_underlying hu, Conv.intToInt, rA]
  ·rename_i sv hd hv
   rw [hv] at hx
   have hu := K.desc hd (by simp)
   cases hx with
   | str _ b hb =>
    refine same k (.str _ b hb) ?_
    simp [convert, run_underlying hus, run_underlying hu]
  ·rename_i e sv hd hv
   rw [hv] at hx
   have hu := K.desc hd (by simp)
   split
   ·rename_i he hsd hsz
    have hue := K.desc he (by simp)
    have hus' := K.desc hsd (by simp)
    cases hx with
    | str _ b hb =>
     have hrun := run_bytes_of_string (P := P) w s d e b hus' hu hue
     have hge := grownCap_ge w b.size 0 e
     have hsize : (bytesRow b (grownCap w b.size 0 e)).size = grownCap w b.size 0 e := by simp [bytesRow]; omega
     let i : Info := ⟨w.heap.size, 0, false, grownCap w b.size 0 e, 1, false, nofun⟩
     have hrel : ae (μ.upd h.next i) (iG sv) (b.data.toList.map fun c => Value.int .u8 c.toNat) := by
      rw [← hb]; exact jI _ _
     have hl : (iG sv).length = b.size := by rw [dM, qp hb]
     have hW := k.drew.alloc (.cells (iG sv) e true false 0 0 true) (.cells (bytesRow b (grownCap w b.size 0 e)) e ((bytesRow b (grownCap w b.size 0 e)).size, (bytesRow b (grownCap w b.size 0 e)).size + 1)) i rfl
      (.cells _ e true false 0 0 true _ _ _ hsize rfl (fun t ht => by rw [← zG ht, hsz]) (by rw [hsize, hl]; simp [i]; exact hge) (by
       rw [hl]
       have : ((bytesRow b (grownCap w b.size 0 e)).toList.drop i.sh).take b.size = b.data.toList.map fun c => Value.int .u8 c.toNat := by
        simp only [bytesRow, i, List.drop_zero, Array.toList_append, Array.toList_map]
        rw [List.take_append_of_le_length (by simp), List.take_of_length_le (by simp)]
       rw [this]; exact hrel) (fun ho => by cases ho) (fun _ => ⟨fun j hj => by rw [hl] at hj; rw [hsize]; simp [i]; omega, fun hm => by cases hm⟩)) rfl
     refine ⟨μ.upd h.next i, _, _, hrun, sj.upd (k.nxt _ (Nat.le_refl _)).2, hW, ?_⟩
     rw [ll, Nat.add_zero, qp hb]
     have := ze.slU (μ := μ.upd h.next i) h.next 0 b.size (grownCap w b.size 0 e) i (Mu.upd_same _ _ _) hge (.inr (by simp [i]))
     exact this
   ·trivial
  ·rename_i hd hv
   rw [hv] at hx
   have hu := K.desc hd (by simp)
   split
   ·rename_i e hsd
    have hus' := K.desc hsd (by simp)
    split
    ·rename_i he
     have hue := K.desc he (by simp)
     cases hx
     refine same k (.str [] .empty rfl) ?_
     simp [convert, run_underlying hus', run_underlying hu, run_underlying hue, Conv.bytesToString]
    ·trivial
   ·trivial
  ·rename_i b o len cap hd hv
   rw [hv] at hx
   have hu := K.desc hd (by simp)
   split
   ·rename_i e hsd
    have hus' := K.desc hsd (by simp)
    split
    ·rename_i he
     have hue := K.desc he (by simp)
     split
     ·rename_i cs hcs
      refine il.ofO k fun v hv2 => ?_
      rw [Option.map_eq_some_iff] at hv2
      obtain ⟨bs, hbs, rfl⟩ := hv2
      have back : ∀ (a : Addr) (n c : Nat) (rl : List Value), rx = .slice (some a) n c → rl.length = n → ae μ cs rl → (∀ j u, rl[j]? = some u → w.cell? (a.add j) = some u) →
        ∃ rv, (convert s d rx).run P w = .ok rv w ∧ ze μ (.str bs) rv := by
       intro a n c rl hrx hn hrl hc
       obtain ⟨by', g1, g2⟩ := mM cs rl bs hrl hbs
       subst hrx
       have hlen : n = by'.length := by rw [← hn, g2]; simp
       subst hlen
       refine ⟨.string ⟨by'.toArray⟩, ?_, .str _ _ (by simp [gB, g1])⟩
       exact run_convert_bytes_back w s d e a c by' hus' hue hu (fun j hj => hc j _ (by rw [g2]; simp [hj]))
      cases hx with
      | slE _ _ _ c inf hb =>
       obtain ⟨rl, h1, h2, h3⟩ := k.rd hb hcs
       exact back _ _ _ rl rfl h2 h1 (fun j u hj => by rw [addr_add]; exact h3 j u hj)
      | slU _ _ _ c inf hb _ _ =>
       obtain ⟨rl, h1, h2, h3⟩ := k.rd hb hcs
       exact back _ _ _ rl rfl h2 h1 (fun j u hj => by rw [addr_add]; exact h3 j u hj)
      | slZ _ _ a i hb hend =>
       have : cs = [] := by
        unfold rd at hcs
        split at hcs
        ·rw [xx] at hcs; simp at hcs; exact hcs
        ·cases hcs
       subst this
       exact back a 0 0 [] rfl rfl .nil (fun j u hj => by simp at hj)
     ·trivial
    ·trivial
   ·trivial
  ·rename_i b o hd hv
   rw [hv] at hx
   have hu := K.desc hd (by simp)
   split
   ·rename_i t xs e opn ro flo fhi mk hsd hg
    have hus' := K.desc hsd (by simp)
    cases h1 : Nat.ble 1 (oh E t) with
    | false => trivial
    | true =>
     cases h2 : Nat.blt o (av xs 0) with
     | false => trivial
     | true =>
      rw [bu, decide_eq_true_eq] at h1
      rw [au, decide_eq_true_eq, ll, Nat.add_zero] at h2
      cases hx with
      | ptr _ _ i hb =>
       obtain ⟨cs, lo, hi, g1, g2, g3, g4, g5, _⟩ := k.cells hb hg
       refine same k (.ptr b o i hb) ?_
       have hsh : w.shape? i.r = some (e, cs.size) := by unfold World.shape?; rw [g1]
       have hsz := K.yj (aY (show oh E t = (oh E t - 1) + 1 by omega)) (P := P) w
       have hlt : ¬ (cs.size ≤ i.sh + o) := by omega
       simp [convert, Conv.unsafePointer, run_underlying hus', run_underlying hu, Conv.seenAt, viewAt, hsh, cellsIn, hsz, hlt, show ¬ (oh E t = 0) by omega]
   ·trivial
  ·rename_i u b o hd hv
   rw [hv] at hx
   have hu := K.desc hd (by simp)
   split
   ·rename_i xs e ro flo fhi mk hsd hg
    have hus' := K.desc hsd (by simp)
    unfold fQ
    split
    ·rename_i i ht
     cases h1 : aaj o u i.lay with
     | false => trivial
     | true =>
      cases h2 : Nat.ble 1 (oh E u) with
      | false => trivial
      | true =>
       cases h3 : Nat.ble 1 i.size with
       | false => trivial
       | true =>
        cases h4 : Nat.beq (av xs 0) i.size with
        | false => trivial
        | true =>
         rw [bu, decide_eq_true_eq] at h2 h3
         rw [fq, decide_eq_true_eq, ll, Nat.add_zero] at h4
         cases hx with
         | ptr _ _ j hb =>
          obtain ⟨cs, lo, hi, g1, g2, g3, g4, g5, g6, g7, _⟩ := k.cells hb hg
          obtain ⟨g8, g9⟩ := g7 rfl
          refine same k (.ptr b o j hb) ?_
          have hsh : w.shape? j.r = some (e, cs.size) := by unfold World.shape?; rw [g1]
          obtain ⟨ti, z, q1, q2, _⟩ := (K.ty e i ht).info
          have hco : P.cellsOf e = i.size := by simp [Program.cellsOf, q1, q2]
          have hsz := K.yj (aY (show oh E u = (oh E u - 1) + 1 by omega)) (P := P) w
          have hcs : cs.size = i.size := by omega
          have hlies : liesAt P P.depth e (cs.size / P.cellsOf e) (j.sh + o) u 1 = true := by
           rw [g8, hcs, hco, Nat.div_self (by omega), Nat.zero_add]
           exact (K.ty e i ht).lay o u h1
          simp [convert, Conv.unsafePointer, run_underlying hus', run_underlying hu, Conv.seenAt, viewAt, hsh, variablesAt, hsz, show ¬ (oh E u = 0) by omega, hlies]
    ·trivial
   ·trivial
  ·trivial
end
end Go.Ev
end
noncomputable section
namespace Go.Ev
open Go.RowKit (Below)
section
variable {P : Program} {E : Env} {base : Nat} {w0 : World} {μ : Mu} {h : H} {w : World}
theorem xad (k : yg E base w0 μ h w) {tm : List V} {x : Operand} {ρ : Operand → Value} (hx : ze μ (ev E tm x) (ρ x)) {o : Oper} (ho : o.op = .nilCheck x) :
  Got E base w0 μ h (dw E tm x h) ((execOp ρ o).run P w) := by
 unfold dw
 split
 all_goals try trivial
 rename_i v n1 n2 n3 n4 n5
 refine ⟨μ, ρ x, w, ?_, sj.refl _ _, k, hx⟩
 simp only [execOp, ho]
 generalize ρ x = rx at hx ⊢
 generalize ev E tm x = v at *
 cases hx with
 | nilp => exact absurd rfl (n1 ·)
 | nilif => exact absurd rfl (n2 ·)
 | nilfunc => exact absurd rfl (n3 ·)
 | bad => exact absurd rfl (n5 ·)
 | func f g a b a' b' hf ha hb =>
  cases hf with
  | method n => exact absurd rfl (n4 _ _ _ ·)
  | _ => rfl
 | _ => rfl
theorem kQ (K : yh P E) (k : yg E base w0 μ h w) {tm : List V} {t : Nat} {x : Operand} {rx : Value} (hx : ze μ (ev E tm x) rx) :
  il E base w0 μ h (bn E tm t x h) ((Instr.makeInterface t rx).run P w) := by
 unfold bn
 split
 ·rename_i i ht
  have hu := (K.ty t i ht).desc
  split
  ·trivial
  ·rename_i hne
   refine same k (.iface t _ _ hx) ?_
   simp only [Instr.makeInterface, Sem.run_bind, run_underlying hu, Result.andThen_ok]
   cases hd : i.desc <;> first | rfl | (exfalso; exact hne _ hd)
 ·trivial
theorem xP {μ : Mu} {tm : List V} {ρ : Operand → Value} : ∀ l : List Operand, (∀ x ∈ l, ze μ (ev E tm x) (ρ x)) → ae μ (evs E tm l) (l.map ρ)
 | [], _ => .nil
 | x :: l, h => .cons _ _ _ _ (h x (by simp)) (xP l fun y hy => h y (by simp [hy]))
theorem mV {μ : Mu} {tm : List V} {ρ : Operand → Value} : ∀ l : List (Nat × Operand), (∀ p ∈ l, ze μ (ev E tm p.2) (ρ p.2)) → kZ μ (evp E tm l) (l.map fun (i, x) => (i, ρ x))
 | [], _ => .nil
 | (i, x) :: l, h => .cons _ _ _ _ _ (h (i, x) (by simp)) (mV l fun y hy => h y (by simp [hy]))
theorem zad (k : yg E base w0 μ h w) {tm : List V} {fn : Fn} {a b : Array Operand} {ρ : Operand → Value} (ha : ∀ x ∈ a.toList, ze μ (ev E tm x) (ρ x)) (hb : ∀ x ∈ b.toList, ze μ (ev E tm x) (ρ x)) :
  il E base w0 μ h (zy E tm fn a b h) ((Instr.makeFunc fn (a.map ρ) (b.map ρ)).run P w) := by
 unfold zy
 cases fn with
 | yield l => trivial
 | _ =>
  refine same k (.func _ _ _ _ _ _ (by constructor) (by simpa using xP _ ha) (by simpa using xP _ hb)) rfl
theorem yg.sac (k : yg E base w0 μ h w) (o : Ob) (o' : Obj) (hob : ∀ μ' i, i.sh = 0 → i.ro = false → Ext μ μ' → su E μ' i o o') :
  ∃ i, sj μ h.next (μ.upd h.next i) ∧ yg E base w0 (μ.upd h.next i) (h.new o) { w with heap := w.heap.push o' } ∧ i.r = w.heap.size ∧ i.sh = 0 := by
 have hext := fun i => Ext.upd (i := i) (k.nxt h.next (Nat.le_refl _)).2
 exact ⟨⟨w.heap.size, 0, false, 0, 0, false, nofun⟩, sj.upd (k.nxt h.next (Nat.le_refl _)).2, k.alloc o o' ⟨w.heap.size, 0, false, 0, 0, false, nofun⟩ rfl (hob _ _ rfl rfl (hext _)) rfl, rfl, rfl⟩
theorem mah (K : yh P E) (k : yg E base w0 μ h w) {tm : List V} {t : Nat} {r : Option Operand} {ρ : Operand → Value} (hx : ∀ x, r = some x → ze μ (ev E tm x) (ρ x)) :
  il E base w0 μ h (yE E tm t r h) ((Instr.makeMap t (r.map ρ)).run P w) := by
 unfold yE
 obtain ⟨i, h1, h2, h3, h4⟩ := k.sac (.map [] 0 false) (.map #[] 0) (fun μ' i hs hr _ => .map _ _ _ _ hs hr .nil)
 have hv : ze (μ.upd h.next i) (.map h.next) (.map (some i.r)) := .map _ i (Mu.upd_same _ _ _)
 split
 ·rename_i kt et hd
  have hu := K.desc hd (by simp)
  split
  ·refine ⟨_, _, _, ?_, h1, h2, hv⟩
   rw [h3]; rfl
  ·rename_i x
   split
   ·rename_i kk n hxv
    have := hx x rfl
    rw [hxv] at this
    generalize hr : ρ x = rx at this
    cases this
    refine ⟨_, _, _, ?_, h1, h2, hv⟩
    rw [h3]
    simp [Instr.makeMap, hr, run_underlying hu, asInt, asIntOf]
   ·trivial
 ·trivial
theorem o7 (K : yh P E) (k : yg E base w0 μ h w) {tm : List V} {t : Nat} {l c : Operand} {rl rc : Value} (hl : ze μ (ev E tm l) rl) (hc : ze μ (ev E tm c) rc) :
  il E base w0 μ h (fC E tm t l c h) ((Instr.makeSlice t rl rc).run P w) := by
 unfold fC
 split
 ·rename_i e k1 n k2 m hd hlv hcv
  rw [hlv] at hl; rw [hcv] at hc
  have hu := K.desc hd (by simp)
  split
  ·rename_i i ht
   cases g1 : Nat.ble n m with
   | false => trivial
   | true =>
   cases g2 : Nat.ble m 1000000 with
   | false => trivial
   | true =>
   cases g3 : Nat.ble i.bytes 100000 with
   | false => trivial
   | true =>
   cases g4 : Nat.ble 1 i.size with
   | false => trivial
   | true =>
   rw [bu, decide_eq_true_eq] at g1 g2 g3 g4
   simp only [cond_true]
   cases hl; cases hc
   obtain ⟨ti, hti, hts, htb⟩ := K.zU ht
   obtain ⟨z, hz, hzr, hzs⟩ := K.oz ht
   have hrow : ae μ (rJ m i.zero.cells []) ((Array.range (m * i.size)).map (z.cells[· % z.cells.size]!)).toList := by
    rw [← hzs, uH _ _ (by omega)]
    exact tq (ae.cells (hzr μ)) m
   obtain ⟨w', j, q1, q2, q3, q4, q5, q6, _⟩ := k.row (P := P) _ _ e hrow
   refine ⟨_, .slice (some ⟨j.r, 0, none⟩) n m, w', ?_, q2, q3, ?_⟩
   ·simp only [Array.toArray_toList] at q1
    have hwn : IntKind.i64.wrap (Int.ofNat n) = n := vH (k := .i64) (by simp only [inR]; rw [au, decide_eq_true_eq]; omega)
    have hwm : IntKind.i64.wrap (Int.ofNat m) = m := vH (k := .i64) (by simp only [inR]; rw [au, decide_eq_true_eq]; omega)
    have hb0 : i.bytes * m ≤ 100000000000 := Nat.mul_le_mul g3 g2
    have hb : (i.bytes : Int) * m ≤ 100000000000 := by
     rw [← Int.natCast_mul]; omega
    have t1 : ¬ ((m : Int) < 0) := by omega
    have t2 : ¬ ((i.bytes : Int) * m > 2 ^ 48) := by omega
    have t3 : ¬ ((n : Int) < 0) := by omega
    have t4 : ¬ ((n : Int) > m) := by omega
    have hrun : ((do
      let zero ← if m * i.size = 0 then pure #[] else do pure (← zeroValue e).cells
      let a ← newRow e ((Array.range (m * i.size)).map (zero[· % zero.size]!))
      pure (.slice (some a) n m) : Sem Value)).run P w = .ok (.slice (some ⟨j.r, 0, none⟩) n m) w' := by
     by_cases h0 : m * i.size = 0
     ·have e0 : (Array.range (m * i.size)).map ((#[] : Array Value)[· % (#[] : Array Value).size]!) = (Array.range (m * i.size)).map (z.cells[· % z.cells.size]!) := by rw [h0]; simp
      rw [if_pos h0]
      simp only [Sem.run_bind, Sem.run_pure, Result.andThen_ok, e0, q1]
     ·rw [if_neg h0]
      simp only [Sem.run_bind, Sem.run_pure, Result.andThen_ok, hz, q1]
    have e1 : (decide ((m : Int) < 0) || decide ((ti.bytes : Int) * m > 2 ^ 48)) = false := by rw [htb]; simp only [Bool.or_eq_false_iff, decide_eq_false_iff_not]; exact ⟨t1, t2⟩
    unfold Instr.makeSlice
    simp only [Sem.run_bind, run_underlying hu, Result.andThen_ok, asInt, asIntOf, Sem.run_pure, hti]
    rw [hwn, hwm]
    rw [e1]
    simp only [Bool.false_or, decide_eq_true_eq, Bool.or_eq_true, t3, t4, or_self, if_false, Sem.run_bind, run_askRoom, Result.andThen_ok, Int.toNat_natCast, K.ow ht]
    simp only [Sem.run_bind] at hrun
    exact hrun
   ·have := ze.slE (μ := μ.upd h.next j) h.next 0 n m j (Mu.upd_same _ _ _)
    rwa [q5] at this
  ·trivial
 ·trivial
end
end Go.Ev
end
noncomputable section
namespace Go.Ev
open Go.RowKit (Below)
section
variable {P : Program} {E : Env} {base : Nat} {w0 : World} {μ : Mu} {h : H} {w : World}
theorem kad {tm : List V} {x : Option Operand} {d n : Nat} {ρ : Operand → Value} (hx : ∀ y, x = some y → ze μ (ev E tm y) (ρ y)) (hb : bnd E tm x d = some n) :
  (x = none ∧ n = d) ∨ ∃ y k, x = some y ∧ ρ y = .int k n := by
 unfold bnd at hb
 split at hb
 ·cases hb; exact .inl ⟨rfl, rfl⟩
 ·rename_i y
  split at hb
  ·rename_i k m he
   cases hb
   have := hx y rfl
   rw [he] at this
   generalize hr : ρ y = ry at this
   cases this
   exact .inr ⟨y, k, rfl, hr⟩
  ·cases hb
theorem az {k : IntKind} {n y : Nat} {c : BoundsCode} (hn : n ≤ y) (w : World) : (Instr.sliceBound (.int k n) y c).run P w = .ok n w := by
 have h : (0 : Int) ≤ (n : Int) ∧ (n : Int) ≤ y := ⟨by omega, by omega⟩
 simp only [Instr.sliceBound, asIntOf, Sem.run_bind, Sem.run_pure, Result.andThen_ok]
 rw [if_pos h]
 simp
theorem iL {tm : List V} {lo hi : Option Operand} {ρ : Operand → Value} {isS : Bool} {len cap l u : Nat} (hlo : ∀ y, lo = some y → ze μ (ev E tm y) (ρ y)) (hhi : ∀ y, hi = some y → ze μ (ev E tm y) (ρ y))
  (h1 : bnd E tm lo 0 = some l) (h2 : bnd E tm hi len = some u) (hlu : l ≤ u) (huc : u ≤ cap) (w : World) :
  (Instr.sliceBounds isS len cap (lo.map ρ) (hi.map ρ) none).run P w = .ok (l, u, cap) w := by
 have g1 := kad hlo h1
 have g2 := kad hhi h2
 rcases g2 with ⟨rfl, rfl⟩ | ⟨y, k, rfl, hy⟩ <;> rcases g1 with ⟨rfl, rfl⟩ | ⟨z, k', rfl, hz⟩ <;>
  simp [Instr.sliceBounds, *, az hlu, az huc]
theorem xal {tm : List V} {lo hi : Option Operand} {mo : Operand} {ρ : Operand → Value} {isS : Bool} {len cap l u m : Nat} {km : IntKind} (hlo : ∀ y, lo = some y → ze μ (ev E tm y) (ρ y)) (hhi : ∀ y, hi = some y → ze μ (ev E tm y) (ρ y))
  (h1 : bnd E tm lo 0 = some l) (h2 : bnd E tm hi len = some u) (hs : jD hi = true) (hm : ρ mo = .int km m) (hlu : l ≤ u) (hum : u ≤ m) (hmc : m ≤ cap) (w : World) :
  (Instr.sliceBounds isS len cap (lo.map ρ) (hi.map ρ) (some (ρ mo))).run P w = .ok (l, u, m) w := by
 have g1 := kad hlo h1
 have g2 := kad hhi h2
 rcases g2 with ⟨rfl, rfl⟩ | ⟨y, k, rfl, hy⟩
 ·cases hs
 ·rcases g1 with ⟨rfl, rfl⟩ | ⟨z, k', rfl, hz⟩ <;>
   simp [Instr.sliceBounds, *, az hlu, az hum, az hmc]
theorem vac {b : ByteArray} {s r : List Nat} {l u : Nat} (hb : gB b = s) (hr : yz (vI s l) (u - l) = some r) (hlu : l ≤ u) : gB (b.extract l u) = r := by
 rw [xx, gH] at hr
 split at hr
 ·cases hr
  rw [← hb]
  simp only [gB, ByteArray.data_extract, Array.toList_extract, List.extract_eq_take_drop, List.map_take, List.map_drop]
 ·cases hr
set_option maxHeartbeats 1000000 in
theorem aap (K : yh P E) (k : yg E base w0 μ h w) {tm : List V} {t : Nat} {x : Operand} {lo hi mx : Option Operand} {ρ : Operand → Value} (hx : ze μ (ev E tm x) (ρ x))
  (hlo : ∀ y, lo = some y → ze μ (ev E tm y) (ρ y)) (hhi : ∀ y, hi = some y → ze μ (ev E tm y) (ρ y)) (hmx : ∀ y, mx = some y → ze μ (ev E tm y) (ρ y)) :
  il E base w0 μ h (nI E tm t x lo hi mx h) ((Instr.sliceAt t (ρ x) (lo.map ρ) (hi.map ρ) (mx.map ρ)).run P w) := by
 unfold nI
 split
 ·
  rename_i s hd hv
  rw [hv] at hx
  have hu := K.desc hd (by simp)
  split
  ·trivial
  ·split
   ·rename_i l u h1 h2
    cases hlu : Nat.ble l u with
    | false => trivial
    | true =>
     rw [bu, decide_eq_true_eq] at hlu
     simp only [cond_true]
     cases hul : Nat.ble u (av s 0) with
     | false => trivial
     | true =>
     rw [bu, decide_eq_true_eq, ll, Nat.add_zero] at hul
     simp only [cond_true]
     split
     ·rename_i r hr
      generalize hrx : ρ x = rx at hx
      cases hx with
      | str _ b hb =>
       rw [qp hb] at hul
       rw [ll, Nat.add_zero, qp hb] at h2
       refine same k (.str _ _ (vac hb hr hlu)) ?_
       simp [Instr.sliceAt, Instr.slice, run_underlying hu, iL hlo hhi h1 h2 hlu hul]
     ·trivial
   ·trivial
 ·
  rename_i e hd hv
  rw [hv] at hx
  have hu := K.desc hd (by simp)
  cases hh : has E e with
  | false => trivial
  | true =>
   simp only [cond_true]
   split
   ·rename_i h1 h2
    generalize hrx : ρ x = rx at hx
    cases hx
    refine same k .nilsl ?_
    simp [Instr.sliceAt, Instr.slice, run_underlying hu, iL hlo hhi h1 h2 (Nat.le_refl 0) (Nat.le_refl 0), K.yj hh]
   ·trivial
 ·
  rename_i e b o len cap hd hv
  rw [hv] at hx
  have hu := K.desc hd (by simp)
  cases hh : has E e with
  | false => trivial
  | true =>
   simp only [cond_true]
   split
   ·rename_i l u h1 h2
    cases hlu : Nat.ble l u with
    | false => trivial
    | true =>
     rw [bu, decide_eq_true_eq] at hlu
     simp only [cond_true]
     split
     ·
      cases hul : Nat.ble u len with
      | false => trivial
      | true =>
       rw [bu, decide_eq_true_eq] at hul
       simp only [cond_true]
       split
       ·rename_i xs be opn ro flo fhi mk hg
        cases hbe : Nat.beq be e with
        | false => trivial
        | true =>
         rw [fq, decide_eq_true_eq] at hbe
         subst hbe
         simp only [cond_true]
         generalize hrx : ρ x = rx at hx
         cases hx with
         | slU _ _ _ c i hb hle hend =>
          have hsz : oh E be = i.esz := by
           obtain ⟨cs, lo', hi', q1, q2, q3, q4, _⟩ := k.cells hb hg
           unfold has at hh
           split at hh
           ·rename_i ti hti; rw [zG hti, q4 _ hti]
           ·cases hh
          have hrun := iL (P := P) (isS := true) (cap := c) hlo hhi h1 h2 hlu (by omega) w
          by_cases hcl : c = l
          ·have : u - l = 0 := by omega
           rw [this]
           refine same k (.slZ b _ ⟨i.r, i.sh + o, none⟩ i hb (hend.imp id fun hend => by rw [hsz, ← hcl]; omega)) ?_
           have hrun2 := hrun
           subst hcl
           have hul2 : u = c := by omega
           subst hul2
           simp [Instr.sliceAt, Instr.slice, run_underlying hu, hrun2, K.yj hh]
          ·refine same k (.slU b (o + l * oh E be) (u - l) (c - l) i hb (by omega) ?_) ?_
           ·rcases hend with hend | hend
            ·exact .inl hend
            ·right
             rw [hsz, ← hend]
             have : (c - l) * i.esz + l * i.esz = c * i.esz := by rw [← Nat.add_mul]; congr 1; omega
             omega
           ·simp [Instr.sliceAt, Instr.slice, run_underlying hu, hrun, K.yj hh, hcl, addr_add, Nat.add_assoc]
         | slZ _ _ a i hb hend =>
          have hu0 : u = 0 := by omega
          have hl0 : l = 0 := by omega
          subst hu0; subst hl0
          have hrun := iL (P := P) (isS := true) (cap := 0) hlo hhi h1 h2 hlu (by omega) w
          refine same k (.slZ b _ a i hb (hend.imp id fun hend => by omega)) ?_
          simp [Instr.sliceAt, Instr.slice, run_underlying hu, hrun, K.yj hh]
       ·trivial
     ·
      rename_i c
      cases huc : Nat.ble u c with
      | false => trivial
      | true =>
       rw [bu, decide_eq_true_eq] at huc
       simp only [cond_true]
       generalize hrx : ρ x = rx at hx
       cases hx with
       | slE _ _ _ _ i hb =>
        have hrun := iL (P := P) (isS := true) (cap := c) hlo hhi h1 h2 hlu huc w
        by_cases hcl : c = l
        ·subst hcl
         rw [show Nat.beq c c = true from Nat.beq_refl c]
         refine same k (.slE b o (u - c) (c - c) i hb) ?_
         simp [Instr.sliceAt, Instr.slice, run_underlying hu, hrun, K.yj hh]
        ·rw [show Nat.beq c l = false from by rw [fq]; simpa using hcl]
         refine same k (.slE b (o + l * oh E e) (u - l) (c - l) i hb) ?_
         simp [Instr.sliceAt, Instr.slice, run_underlying hu, hrun, K.yj hh, hcl, addr_add, Nat.add_assoc]
     ·
      rename_i mo
      cases hs : jD hi with
      | false => trivial
      | true =>
      cases hpos : Nat.blt 0 len with
      | false => trivial
      | true =>
      rw [au, decide_eq_true_eq] at hpos
      simp only [cond_true]
      split
      ·rename_i km m hm
       have hmr := hmx mo rfl
       rw [hm] at hmr
       cases hum : Nat.ble u m with
       | false => trivial
       | true =>
       cases hml : Nat.ble m len with
       | false => trivial
       | true =>
       rw [bu, decide_eq_true_eq] at hum hml
       simp only [cond_true]
       generalize hrm : ρ mo = rm at hmr
       cases hmr
       generalize hrx : ρ x = rx at hx
       cases hx with
       | slU _ _ _ c i hb hle hend =>
        have hrun := xal (P := P) (isS := true) (cap := c) hlo hhi h1 h2 hs hrm hlu hum (by omega) w
        simp only [Option.map_some, hrm, Int.ofNat_eq_natCast] at hrun ⊢
        by_cases hcl : m = l
        ·subst hcl
         rw [show Nat.beq m m = true from Nat.beq_refl m]
         refine same k (.slE b o (u - m) (m - m) i hb) ?_
         simp [Instr.sliceAt, Instr.slice, run_underlying hu, hrun, K.yj hh]
        ·rw [show Nat.beq m l = false from by rw [fq]; simpa using hcl]
         refine same k (.slE b (o + l * oh E e) (u - l) (m - l) i hb) ?_
         simp [Instr.sliceAt, Instr.slice, run_underlying hu, hrun, K.yj hh, hcl, addr_add, Nat.add_assoc]
       | slZ => omega
      ·trivial
     ·
      rename_i mo c
      cases hs : jD hi with
      | false => trivial
      | true =>
      simp only [cond_true]
      split
      ·rename_i km m hm
       have hmr := hmx mo rfl
       rw [hm] at hmr
       cases hum : Nat.ble u m with
       | false => trivial
       | true =>
       cases hml : Nat.ble m c with
       | false => trivial
       | true =>
       rw [bu, decide_eq_true_eq] at hum hml
       simp only [cond_true]
       generalize hrm : ρ mo = rm at hmr
       cases hmr
       generalize hrx : ρ x = rx at hx
       cases hx with
       | slE _ _ _ _ i hb =>
        have hrun := xal (P := P) (isS := true) (cap := c) hlo hhi h1 h2 hs hrm hlu hum hml w
        simp only [Option.map_some, hrm, Int.ofNat_eq_natCast] at hrun ⊢
        by_cases hcl : m = l
        ·subst hcl
         rw [show Nat.beq m m = true from Nat.beq_refl m]
         refine same k (.slE b o (u - m) (m - m) i hb) ?_
         simp [Instr.sliceAt, Instr.slice, run_underlying hu, hrun, K.yj hh]
        ·rw [show Nat.beq m l = false from by rw [fq]; simpa using hcl]
         refine same k (.slE b (o + l * oh E e) (u - l) (m - l) i hb) ?_
         simp [Instr.sliceAt, Instr.slice, run_underlying hu, hrun, K.yj hh, hcl, addr_add, Nat.add_assoc]
      ·trivial
   ·trivial
 ·
  rename_i n e b o hd hv
  rw [hv] at hx
  have hu := K.desc hd (by simp)
  cases hh : has E e with
  | false => trivial
  | true =>
   simp only [cond_true]
   split
   ·rename_i l u h1 h2
    cases hlu : Nat.ble l u with
    | false => trivial
    | true =>
    cases hun : Nat.ble u n with
    | false => trivial
    | true =>
    rw [bu, decide_eq_true_eq] at hlu hun
    simp only [cond_true]
    generalize hrx : ρ x = rx at hx
    cases hx with
    | ptr _ _ i hb =>
     have hrun := iL (P := P) (isS := false) (cap := n) hlo hhi h1 h2 hlu hun w
     by_cases hcl : n = l
     ·subst hcl
      rw [show Nat.beq n n = true from Nat.beq_refl n]
      refine same k (.slE b o (u - n) (n - n) i hb) ?_
      simp [Instr.sliceAt, Instr.sureAddr, run_underlying hu, hrun, K.yj hh]
     ·rw [show Nat.beq n l = false from by rw [fq]; simpa using hcl]
      refine same k (.slE b (o + l * oh E e) (u - l) (n - l) i hb) ?_
      simp [Instr.sliceAt, Instr.sureAddr, run_underlying hu, hrun, K.yj hh, hcl, addr_add, Nat.add_assoc]
   ·trivial
 ·trivial
end
end Go.Ev
end
