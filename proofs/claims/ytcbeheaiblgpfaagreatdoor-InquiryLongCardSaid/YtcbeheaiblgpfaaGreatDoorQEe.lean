/- The law InquiryLong: part Ee. -/
import Derived.Laws.RangeString
import Derived.Test.YtcbeheaiblgpfaaGreatDoorQEd
set_option linter.unusedVariables false
set_option linter.unusedSimpArgs false
noncomputable section
namespace Go.Ev
open Go.RowKit (Below)
section
variable {P : Program} {E : Env} {base : Nat} {w0 : World} {μ : Mu} {h : H} {w : World}
inductive iK (μ : Mu) : Option (Nat × V) → Option (Nat × Value) → Prop where
 | none : iK μ none none
 | some (j : Nat) (v : V) (rv : Value) : ze μ v rv → iK μ (some (j, v)) (some (j, rv))
theorem uaa (K : yh P E) (em : Bool) (d : Nat) {xs : List V} {rxs : Array Value} (hx : ae μ xs rxs.toList) : ∀ (fs : List Field) (w : World), flatK E fs xs = true →
  ((forIn fs PUnit.unit fun f _ => do
    if f.name ≠ "_" then do
     let a ← part f.type rxs f.offset
     Instr.checkKey em (d + 1) f.type a
     pure (ForInStep.yield PUnit.unit)
    else pure (ForInStep.yield PUnit.unit)) : Sem PUnit).run P w = .ok PUnit.unit w
 | [], w, _ => by simp
 | f :: l, w, hf => by
  simp only [flatK] at hf
  cases h1 : jas (descOf E f.type) with
  | false => rw [h1] at hf; cases hf
  | true =>
   rw [h1] at hf
   simp only [cond_true] at hf
   split at hf
   ·rename_i v hv
    obtain ⟨rv, g1, g2⟩ := bE K hx hv w
    have hc : (Instr.checkKey em (d + 1) f.type rv).run P w = .ok () w := by
     unfold jas at h1
     split at h1 <;> first | (cases h1; done) | (rename_i hd; have hu := K.desc hd (by simp); simp [Instr.checkKey, run_underlying hu])
    have hrest := uaa K em d hx l w hf
    by_cases hn : f.name ≠ "_"
    ·simp only [List.forIn_cons, Sem.run_bind, if_pos hn, g1, Result.andThen_ok, hc, Sem.run_pure]
     exact hrest
    ·simp only [List.forIn_cons, Sem.run_bind, if_neg hn, Result.andThen_ok, Sem.run_pure]
     exact hrest
   ·cases hf
theorem wJ (K : yh P E) {t : Nat} {x : V} {rx : Value} (hx : ze μ x rx) (hk : tF E t x = true) (em : Bool) (w : World) : (Instr.checkKey em 10000 t rx).run P w = .ok () w := by
 unfold tF at hk
 split at hk
 ·rename_i i k n ht
  split at hk
  ·rename_i hd; have hu := (K.ty t i ht).desc; rw [hd] at hu; cases hx; show (Instr.checkKey em (9999 + 1) t _).run P w = _; unfold Instr.checkKey; simp only [Sem.run_bind, run_underlying hu, Result.andThen_ok, Sem.run_pure]
  ·cases hk
 ·rename_i i s ht
  split at hk
  ·rename_i hd; have hu := (K.ty t i ht).desc; rw [hd] at hu; cases hx; show (Instr.checkKey em (9999 + 1) t _).run P w = _; unfold Instr.checkKey; simp only [Sem.run_bind, run_underlying hu, Result.andThen_ok, Sem.run_pure]
  ·cases hk
 ·rename_i i b ht
  split at hk
  ·rename_i hd; have hu := (K.ty t i ht).desc; rw [hd] at hu; cases hx; show (Instr.checkKey em (9999 + 1) t _).run P w = _; unfold Instr.checkKey; simp only [Sem.run_bind, run_underlying hu, Result.andThen_ok, Sem.run_pure]
  ·cases hk
 ·rename_i i xs ht
  rw [Bool.and_eq_true] at hk
  obtain ⟨h1, h2⟩ := hk
  split at h2
  ·rename_i fs hd
   have hu := (K.ty t i ht).desc
   rw [hd] at hu
   cases hx with
   | agg _ l hl =>
    have := uaa (P := P) K em 9998 hl fs.toList w h2
    rw [Array.forIn_toList] at this
    show (Instr.checkKey em (9999 + 1) t (.agg l)).run P w = _
    unfold Instr.checkKey
    simp only [Sem.run_bind, run_underlying hu, Result.andThen_ok]
    rw [show (9999 : Nat) = 9998 + 1 from rfl, this]
    rfl
  ·cases h2
 ·cases hk
theorem wan (K : yh P E) {t : Nat} {i : Ty} (ht : E.ty.get t = some i) {x y : V} {rx ry : Value} {r : Bool} (hx : ze μ x rx) (hy : ze μ y ry) (hk : tF E t x = true) (hna : ∀ l, x ≠ .agg l) (he : kaa E t x y = some r) :
  Instr.sameNow i.desc rx ry = some r := by
 unfold tF at hk
 rw [ht] at hk
 unfold kaa at he
 split at he
 ·rename_i k a k' b
  obtain ⟨h1, h2⟩ := si he
  rw [qX, decide_eq_true_eq] at h1
  cases h2
  cases hx; cases hy
  simp only at hk
  split at hk
  ·rename_i hd
   rw [hd, h1]
   simp only [Instr.sameNow, if_true, dD]
   rfl
  ·cases hk
 ·rename_i a b
  cases he
  cases hx with
  | str _ ba hba => cases hy with
   | str _ bb hbb =>
    simp only at hk
    split at hk
    ·rename_i hd
     rw [hd]
     simp only [Instr.sameNow, gJ hba hbb]
    ·cases hk
 ·rename_i a b
  cases he
  cases hx; cases hy
  simp only at hk
  split at hk
  ·rename_i hd; rw [hd]; rfl
  ·cases hk
 ·exact absurd rfl (hna _)
 ·cases he
theorem eY (K : yh P E) {t : Nat} {i : Ty} (ht : E.ty.get t = some i) {x : V} {rx : Value} (hx : ze μ x rx) (hk : tF E t x = true) (hna : ∀ l, x ≠ .agg l) :
  ∀ (es : List (V × V × Nat)) (res : List MapEntry) (n : Nat) (r : Option (Nat × V)), jm μ es res → nA E t x es n = some r →
   ∃ rr, Instr.findNow i.desc rx res n = some rr ∧ iK μ r rr
 | [], _, n, r, .nil, h => by simp only [nA] at h; cases h; exact ⟨none, rfl, .none⟩
 | (k', v, b) :: l, _, n, r, .cons _ _ _ e _ l' hk' hv hb hl, h => by
  simp only [nA] at h
  cases he : kaa E t x k' with
  | none => rw [he] at h; cases h
  | some q =>
   have hn := wan K ht hx hk' hk hna he
   rw [he] at h
   cases q with
   | true =>
    cases h
    exact ⟨some (n, e.val), by simp [Instr.findNow, hn], .some _ _ _ hv⟩
   | false =>
    obtain ⟨rr, g1, g2⟩ := eY K ht hx hk hna l l' (n + 1) r hl h
    exact ⟨rr, by simp [Instr.findNow, hn, g1], g2⟩
theorem gY (K : yh P E) (k : yg E base w0 μ h w) {t : Nat} {xs : List V} {rx : Value} (hx : ze μ (.agg xs) rx) (w' : World) :
  ∀ (es : List (V × V × Nat)) (res : List MapEntry) (n : Nat) (r : Option (Nat × V)), jm μ es res → nA E t (.agg xs) es n = some r →
   ∃ rr, (Instr.findAsking t rx res n).run P w' = .ok rr w' ∧ iK μ r rr
 | [], _, n, r, .nil, h => by simp only [nA] at h; cases h; exact ⟨none, rfl, .none⟩
 | (k', v, b) :: l, _, n, r, .cons _ _ _ e _ l' hk' hv hb hl, h => by
  simp only [nA] at h
  cases he : kaa E t (.agg xs) k' with
  | none => rw [he] at h; cases h
  | some q =>
   rw [he] at h
   have hq : (Op.equal t rx e.key).run P w' = .ok q w' := by
    cases k' <;> simp only [kaa] at he <;> try (cases he; done)
    exact xM K k hx hk' he w'
   cases q with
   | true =>
    cases h
    exact ⟨some (n, e.val), by simp [Instr.findAsking, hq], .some _ _ _ hv⟩
   | false =>
    obtain ⟨rr, g1, g2⟩ := gY K k hx w' l l' (n + 1) r hl h
    exact ⟨rr, by simp [Instr.findAsking, hq, g1], g2⟩
theorem qE (K : yh P E) (k : yg E base w0 μ h w) {t : Nat} {x : V} {rx : Value} (hx : ze μ x rx) (hk : tF E t x = true) {es : List (V × V × Nat)} {res : List MapEntry} {r : Option (Nat × V)}
  (he : jm μ es res) (hf : nA E t x es 0 = some r) (w' : World) :
  ∃ rr, (Instr.findKey t rx res).run P w' = .ok rr w' ∧ iK μ r rr := by
 obtain ⟨i, ht⟩ : ∃ i, E.ty.get t = some i := by
  unfold tF at hk
  cases ht : E.ty.get t with
  | none => rw [ht] at hk; simp at hk
  | some i => exact ⟨i, rfl⟩
 have hu := (K.ty t i ht).desc
 by_cases hag : ∃ l, x = .agg l
 ·obtain ⟨l, rfl⟩ := hag
  obtain ⟨rr, g1, g2⟩ := gY K k hx w' es res 0 r he hf
  refine ⟨rr, ?_, g2⟩
  simp only [Instr.findKey, Sem.run_bind, run_underlying hu, Result.andThen_ok]
  cases hn : Instr.findNow i.desc rx res 0 with
  | none => exact g1
  | some q =>
   cases he with
   | nil =>
    simp only [Instr.findNow] at hn
    cases hn
    simp only [Instr.findAsking] at g1
    exact g1
   | cons _ _ _ e _ l' _ _ _ _ =>
    exfalso
    simp only [Instr.findNow] at hn
    cases hx with
    | agg _ l hl =>
     have : Instr.sameNow i.desc (.agg l) e.key = none := by cases i.desc <;> rfl
     rw [this] at hn
     cases hn
 ·obtain ⟨rr, g1, g2⟩ := eY K ht hx hk (fun l hl => hag ⟨l, hl⟩) es res 0 r he hf
  refine ⟨rr, ?_, g2⟩
  simp only [Instr.findKey, Sem.run_bind, run_underlying hu, Result.andThen_ok, g1, Sem.run_pure]
theorem yg.map (k : yg E base w0 μ h w) {b : Nat} {i : Info} {es : List (V × V × Nat)} {c : Nat} {ro : Bool} (hb : μ b = some i) (hg : h.get b = some (.map es c ro)) :
  ∃ es' : Array MapEntry, w.heap[i.r]? = some (.map es' c) ∧ i.sh = 0 ∧ i.ro = ro ∧ jm μ es es'.toList := by
 obtain ⟨o', h1, h2⟩ := k.ob b i _ hb hg
 cases h2 with
 | map _ _ _ es' q1 q2 q3 => exact ⟨es', h1, q1, q2, q3⟩
theorem uj {r : Nat} {o : Obj} (hg : w.heap[r]? = some o) (hn : ∀ c e f, o ≠ .cells c e f) : (getObj r).run P w = .ok o w := by
 simp only [getObj, Sem.run, hg]
theorem jm.length {l : List (V × V × Nat)} {l' : List MapEntry} (h : jm μ l l') : l.length = l'.length := by
 induction l generalizing l' with
 | nil => cases h; rfl
 | cons x l ih => cases h with | cons _ _ _ _ _ _ _ _ _ hl => simp [ih hl]
theorem sak (K : yh P E) (k : yg E base w0 μ h w) {tm : List V} {t : Nat} {x ix : Operand} {ok : Bool} {rx ri : Value} (hx : ze μ (ev E tm x) rx) (hi : ze μ (ev E tm ix) ri) :
  il E base w0 μ h (mD E tm t x ix ok h) ((Instr.lookup t rx ri ok).run P w) := by
 unfold mD
 split
 ·rename_i kt et hd
  have hu := K.desc hd (by simp)
  split
  ·rename_i ei hei
   obtain ⟨z, hz, hzr, hzs⟩ := K.oz hei
   cases hk : tF E kt (ev E tm ix) with
   | false => trivial
   | true =>
    simp only [cond_true]
    have main : ∀ (es : List (V × V × Nat)) (res : Array MapEntry) (r : Option (Nat × V)), jm μ es res.toList → nA E kt (ev E tm ix) es 0 = some r →
      ((rx = .map none ∧ res = #[]) ∨ ∃ q c, rx = .map (some q) ∧ (getObj q).run P w = .ok (.map res c) w) →
      ∃ rv, (Instr.lookup t rx ri ok).run P w = .ok rv w ∧ ze μ (match r with | some (_, v) => bif ok then .tup [v, .bool true] else v | none => bif ok then .tup [ei.zero, .bool false] else ei.zero) rv := by
     intro es res r he hf hm
     obtain ⟨rr, g1, g2⟩ := qE (P := P) K k hi hk he hf w
     have hck := wJ (P := P) K hi hk res.isEmpty w
     have hrun : ∀ v, rr = some v → (Instr.lookup t rx ri ok).run P w = .ok (if ok then .tuple #[v.2, .bool true] else v.2) w := by
      intro v hv
      subst hv
      obtain ⟨q, v⟩ := v
      unfold Instr.lookup
      rcases hm with ⟨rfl, rfl⟩ | ⟨q, c, rfl, hg⟩
      ·simp only [Sem.run_bind, run_underlying hu, Result.andThen_ok, Sem.run_pure, hck, g1]
      ·simp only [Sem.run_bind, run_underlying hu, Result.andThen_ok, Sem.run_pure, hg, hck, g1]
     have hrun0 : rr = none → (Instr.lookup t rx ri ok).run P w = .ok (if ok then .tuple #[z, .bool false] else z) w := by
      intro hv
      subst hv
      unfold Instr.lookup
      rcases hm with ⟨rfl, rfl⟩ | ⟨q, c, rfl, hg⟩
      ·simp only [Sem.run_bind, run_underlying hu, Result.andThen_ok, Sem.run_pure, hck, g1, hz]
      ·simp only [Sem.run_bind, run_underlying hu, Result.andThen_ok, Sem.run_pure, hg, hck, g1, hz]
     cases g2 with
     | none =>
      cases ok with
      | true => exact ⟨.tuple #[z, .bool false], by rw [hrun0 rfl]; rfl, .tup _ _ (.cons _ _ _ _ (hzr μ) (.cons _ _ _ _ (.bool _) .nil))⟩
      | false => exact ⟨z, by rw [hrun0 rfl]; rfl, hzr μ⟩
     | some j v rv hv =>
      cases ok with
      | true => exact ⟨.tuple #[rv, .bool true], by rw [hrun _ rfl]; rfl, .tup _ _ (.cons _ _ _ _ hv (.cons _ _ _ _ (.bool _) .nil))⟩
      | false => exact ⟨rv, by rw [hrun _ rfl]; rfl, hv⟩
    have all : ∀ r, (match ev E tm x with
      | .nilmap => some none
      | .map r => (match h.get r with
       | some (.map es _ _) => nA E kt (ev E tm ix) es 0
       | _ => none)
      | _ => none) = some r → ∃ rv, (Instr.lookup t rx ri ok).run P w = .ok rv w ∧ ze μ (match r with | some (_, v) => bif ok then .tup [v, .bool true] else v | none => bif ok then .tup [ei.zero, .bool false] else ei.zero) rv := by
     intro r hr
     split at hr
     ·rename_i hv
      cases hr
      rw [hv] at hx
      cases hx
      exact main [] #[] none .nil rfl (.inl ⟨rfl, rfl⟩)
     ·rename_i b hv
      rw [hv] at hx
      cases hx with
      | map _ i hb =>
       split at hr
       ·rename_i es c ro hg
        obtain ⟨es', q1, q2, q3, q4⟩ := k.map hb hg
        exact main es es' r q4 hr (.inr ⟨_, c, rfl, uj (P := P) q1 (fun _ _ _ hc => by cases hc)⟩)
       ·cases hr
     ·cases hr
    split
    ·rename_i n v hm
     obtain ⟨rv, q1, q2⟩ := all _ hm
     exact same k q2 q1
    ·rename_i hm
     obtain ⟨rv, q1, q2⟩ := all _ hm
     exact same k q2 q1
    ·trivial
  ·trivial
 ·trivial
end
end Go.Ev
end
noncomputable section
namespace Go.Ev
open Go.RowKit (Below)
mutual
theorem uQ : ∀ (a b : V), veq a b = true → a = b
 | .bool a, .bool b, h => by simp only [veq, beq_iff_eq] at h; rw [h]
 | .int k a, .int j b, h => by
  simp only [veq, Bool.and_eq_true, qX, dD, decide_eq_true_eq] at h; rw [h.1, h.2]
 | .str a, .str b, h => by simp only [veq, dO, decide_eq_true_eq] at h; rw [h]
 | .nilp, .nilp, _ => rfl
 | .ptr a o, .ptr b p, h => by simp only [veq, Bool.and_eq_true, fq, decide_eq_true_eq] at h; rw [h.1, h.2]
 | .nilsl, .nilsl, _ => rfl
 | .sl a o n none, .sl b p m none, h => by simp only [veq, Bool.and_eq_true, fq, decide_eq_true_eq] at h; rw [h.1.1, h.1.2, h.2]
 | .sl a o n (some c), .sl b p m (some d), h => by simp only [veq, Bool.and_eq_true, fq, decide_eq_true_eq] at h; rw [h.1.1.1, h.1.1.2, h.1.2, h.2]
 | .nilmap, .nilmap, _ => rfl
 | .map a, .map b, h => by simp only [veq, fq, decide_eq_true_eq] at h; rw [h]
 | .func f a b, .func g c d, h => by
  simp only [veq, Bool.and_eq_true, decide_eq_true_eq] at h
  rw [h.1.1, wH a c h.1.2, wH b d h.2]
 | .nilfunc, .nilfunc, _ => rfl
 | .iface t v, .iface u w, h => by
  simp only [veq, Bool.and_eq_true, fq, decide_eq_true_eq] at h
  rw [h.1, uQ v w h.2]
 | .nilif, .nilif, _ => rfl
 | .agg a, .agg b, h => by simp only [veq] at h; rw [wH a b h]
 | .tup a, .tup b, h => by simp only [veq] at h; rw [wH a b h]
theorem wH : ∀ (a b : List V), iab a b = true → a = b
 | [], [], _ => rfl
 | x :: a, y :: b, h => by
  simp only [iab, Bool.and_eq_true] at h
  rw [uQ x y h.1, wH a b h.2]
end
section
variable {P : Program} {E : Env} {base : Nat} {w0 : World} {μ : Mu} {h : H} {w : World}
theorem wm {r : Nat} {o o' : Obj} (hg : w.heap[r]? = some o) (hn : ∀ c e f, o ≠ .cells c e f) : (setObj r o').run P w = .ok () { w with heap := w.heap.setIfInBounds r o' } := by
 simp only [setObj, Sem.run, hg]
theorem yg.set (k : yg E base w0 μ h w) {b : Nat} {i : Info} {o p : Ob} {o1 p' : Obj} (hb : μ b = some i) (hro : i.ro = false) (hg : h.get b = some o) (hd : o ≠ .dead) (h1 : w.heap[i.r]? = some o1) (hob : su E μ i p p') :
  yg E base w0 μ (h.put b p) { w with heap := w.heap.setIfInBounds i.r p' } := by
 refine k.turn b i o p p' _ hb hro hg hd (fun r hr => ?_) ?_ hob (by simp) ⟨rfl, rfl, rfl⟩
 ·show (w.heap.setIfInBounds i.r p')[r]? = _
  rw [Array.getElem?_setIfInBounds_ne (Ne.symm hr)]
 ·show (w.heap.setIfInBounds i.r p')[i.r]? = _
  rw [Array.getElem?_setIfInBounds_self]
  have := k.lt b i hb
  simp [this]
theorem jm.set {es : List (V × V × Nat)} {res : List MapEntry} (he : jm μ es res) {k v : V} {rk rv : Value} (hk : ze μ k rk) (hv : ze μ v rv) : ∀ i, jm μ (aG es i k v) (res.modify i fun e => { e with key := rk, val := rv }) := by
 induction es generalizing res with
 | nil => intro i; cases he; simp [aG]; exact .nil
 | cons x l ih =>
  intro i
  cases he with
  | cons k0 v0 b e _ l' h1 h2 h3 hl =>
   cases i with
   | zero => simp only [aG, List.modify_zero_cons]; exact .cons _ _ _ _ _ _ hk hv h3 hl
   | succ i => simp only [aG, List.modify_succ_cons]; exact .cons _ _ _ _ _ _ h1 h2 h3 (ih hl i)
theorem jm.push {es : List (V × V × Nat)} {res : List MapEntry} (he : jm μ es res) {k v : V} {rk rv : Value} (hk : ze μ k rk) (hv : ze μ v rv) (c : Nat) : jm μ (snoc es (k, v, c)) (res ++ [{ key := rk, val := rv, born := c }]) := by
 induction es generalizing res with
 | nil => cases he; exact .cons _ _ _ _ _ _ hk hv rfl .nil
 | cons x l ih =>
  cases he with
  | cons k0 v0 b e _ l' h1 h2 h3 hl => exact .cons _ _ _ _ _ _ h1 h2 h3 (ih hl)
theorem jm.key {es : List (V × V × Nat)} {res : List MapEntry} (he : jm μ es res) : ∀ (i : Nat) (e : MapEntry), res[i]? = some e → ze μ (laa es i) e.key ∧ jad es i = e.born := by
 induction es generalizing res with
 | nil => cases he; intro i e hi; simp at hi
 | cons x l ih =>
  cases he with
  | cons k0 v0 b e0 _ l' h1 h2 h3 hl =>
   intro i e hi
   cases i with
   | zero => simp at hi; subst hi; exact ⟨h1, h3.symm⟩
   | succ i => simpa [laa, jad] using ih hl i e (by simpa using hi)
theorem yaf {old new : Value} {k : V} (ho : ze μ k old) (hn : ze μ k new) (kw : yg E base w0 μ h w) : ∃ key w', (Instr.keyThatStays old new).run P w = .ok key w' ∧ ze μ k key ∧ yg E base w0 μ h w' ∧ w'.heap = w.heap := by
 unfold Instr.keyThatStays
 split
 ·exact ⟨new, w, rfl, hn, kw, rfl⟩
 ·by_cases hc : (Question.extern "map.whichKeyStays" 2).cut (w.tape w.drawn (Question.extern "map.whichKeyStays" 2)) = 0
  ·exact ⟨new, { w with drawn := w.drawn + 1 }, by simp [Question.forced, hc], hn, kw.drew, rfl⟩
  ·exact ⟨old, { w with drawn := w.drawn + 1 }, by simp [Question.forced, hc], ho, kw.drew, rfl⟩
theorem findAt {t : Nat} {x : V} : ∀ (es : List (V × V × Nat)) (n j : Nat) (v : V), nA E t x es n = some (some (j, v)) → n ≤ j ∧ j - n < es.length
 | [], n, j, v, h => by simp [nA] at h
 | (k', v', b) :: l, n, j, v, h => by
  simp only [nA] at h
  split at h
  ·cases h; simp
  ·have := findAt l (n + 1) j v h
   simp; omega
  ·cases h
theorem eal (K : yh P E) (k : yg E base w0 μ h w) {kt et t : Nat} {m x v : V} {rm rx rv : Value} {h' : H} (hu : P.underlying t = some (.map kt et)) (hm : ze μ m rm) (hx : ze μ x rx) (hv : ze μ v rv)
  (hp : saq E kt m x v h = some h') : ∃ w', (Instr.mapUpdate t rm rx rv).run P w = .ok () w' ∧ yg E base w0 μ h' w' := by
 unfold saq at hp
 obtain ⟨hk, hp⟩ := si hp
 split at hp
 ·rename_i r
  cases hm with
  | map _ i hb =>
   split at hp
   ·rename_i es c hg
    obtain ⟨es', q1, q2, q3, q4⟩ := k.map hb hg
    have hgo := uj (P := P) q1 (fun _ _ _ hc => by cases hc)
    have hck := wJ (P := P) K hx hk false w
    split at hp
    ·rename_i j u hf
     obtain ⟨hveq, hp⟩ := si hp
     cases hp
     obtain ⟨rr, g1, g2⟩ := qE (P := P) K k hx hk q4 hf w
     cases g2 with
     | some _ _ ru hu2 =>
      have hj : j < es'.size := by
       have := (findAt es 0 j u hf).2
       rw [q4.length] at this
       simpa using this
      obtain ⟨hke, _⟩ := q4.key j es'[j] (by simp [hj])
      rw [uQ _ _ hveq] at hke
      obtain ⟨key, w1, r1, r2, r3, r4⟩ := yaf (P := P) hke hx k
      have hg1 : w1.heap[i.r]? = some (.map es' c) := by rw [r4]; exact q1
      refine ⟨{ w1 with heap := w1.heap.setIfInBounds i.r (.map (es'.modify j fun e => { e with key := key, val := rv }) c) }, ?_, ?_⟩
      ·have hold : ((es'[j]?).map (·.key)).getD rx = es'[j].key := by simp [hj]
       simp only [Instr.mapUpdate, Sem.run_bind, run_underlying hu, Result.andThen_ok, hgo, hck, g1, hold, r1, wm (P := P) hg1 (fun _ _ _ hc => by cases hc)]
      ·refine r3.set hb q3 hg (by simp) hg1 (.map _ _ _ _ q2 q3 ?_)
       rw [Array.toList_modify]
       exact q4.set r2 hv j
    ·rename_i hf
     cases hp
     obtain ⟨rr, g1, g2⟩ := qE (P := P) K k hx hk q4 hf w
     cases g2
     refine ⟨{ w with heap := w.heap.setIfInBounds i.r (.map (es'.push { key := rx, val := rv, born := c }) (c + 1)) }, ?_, ?_⟩
     ·simp only [Instr.mapUpdate, Sem.run_bind, run_underlying hu, Result.andThen_ok, hgo, hck, g1, wm (P := P) q1 (fun _ _ _ hc => by cases hc)]
     ·refine k.set hb q3 hg (by simp) q1 (.map _ _ _ _ q2 q3 ?_)
      rw [Array.toList_push]
      exact q4.push hx hv c
    ·cases hp
   ·cases hp
 ·cases hp
def wak : List (V × V × Nat) → Nat → Option V
 | [], _ => none
 | (_, v, _) :: _, 0 => some v
 | _ :: l, i + 1 => wak l i
theorem tal {t : Nat} {x : V} : ∀ (es : List (V × V × Nat)) (n j : Nat) (v : V), nA E t x es n = some (some (j, v)) → wak es (j - n) = some v
 | [], n, j, v, h => by simp [nA] at h
 | (k', v', b) :: l, n, j, v, h => by
  simp only [nA] at h
  split at h
  ·cases h; simp [wak]
  ·have h1 := tal l (n + 1) j v h
   have h2 := (findAt l (n + 1) j v h).1
   rw [show j - n = (j - (n + 1)) + 1 from by omega]
   exact h1
  ·cases h
theorem jm.yaI {es : List (V × V × Nat)} {res : List MapEntry} (he : jm μ es res) {k v : V} {rk : Value} (hk : ze μ k rk) : ∀ i, wak es i = some v → jm μ (aG es i k v) (res.modify i fun e => { e with key := rk }) := by
 induction es generalizing res with
 | nil => intro i hi; cases hi
 | cons x l ih =>
  intro i hi
  cases he with
  | cons k0 v0 b e _ l' h1 h2 h3 hl =>
   cases i with
   | zero => cases hi; simp only [aG, List.modify_zero_cons]; exact .cons _ _ _ _ _ _ hk h2 h3 hl
   | succ i => simp only [aG, List.modify_succ_cons]; exact .cons _ _ _ _ _ _ h1 h2 h3 (ih hl i hi)
theorem yad (K : yh P E) (k : yg E base w0 μ h w) {tm : List V} {t : Nat} {m x : Operand} {rm rx : Value} (hm : ze μ (ev E tm m) rm) (hx : ze μ (ev E tm x) rx) :
  il E base w0 μ h (vD E tm t m x h) ((Instr.mapEntry t rm rx).run P w) := by
 unfold vD
 split
 ·rename_i kt et hd
  have hu := K.desc hd (by simp)
  split
  ·rename_i ei r hei hmv
   rw [hmv] at hm
   cases hk : tF E kt (ev E tm x) with
   | false => trivial
   | true =>
   simp only [cond_true]
   cases hm with
   | map _ i hb =>
   split
   ·rename_i es c hg
    obtain ⟨es', q1, q2, q3, q4⟩ := k.map hb hg
    have hgo := uj (P := P) q1 (fun _ _ _ hc => by cases hc)
    have hck := wJ (P := P) K hx hk false w
    split
    ·rename_i j u hf
     cases hveq : veq (laa es j) (ev E tm x) with
     | false => trivial
     | true =>
     obtain ⟨rr, g1, g2⟩ := qE (P := P) K k hx hk q4 hf w
     cases g2 with
     | some _ _ ru hu2 =>
      have hj : j < es'.size := by
       have := (findAt es 0 j u hf).2
       rw [q4.length] at this
       simpa using this
      obtain ⟨hke, hbo⟩ := q4.key j es'[j] (by simp [hj])
      rw [uQ _ _ hveq] at hke
      obtain ⟨key, w1, r1, r2, r3, r4⟩ := yaf (P := P) hke hx k
      have hg1 : w1.heap[i.r]? = some (.map es' c) := by rw [r4]; exact q1
      have hval := tal es 0 j u hf
      rw [Nat.sub_zero] at hval
      refine ⟨μ, .tuple #[ru, goInt es'[j].born], { w1 with heap := w1.heap.setIfInBounds i.r (.map (es'.modify j fun e => { e with key := key }) c) }, ?_, sj.refl _ _, ?_, .tup _ _ (.cons _ _ _ _ hu2 (.cons _ _ _ _ (by rw [hbo]; exact .int _ _) .nil))⟩
      ·have hold : ((es'[j]?).map (·.key)).getD rx = es'[j].key := by simp [hj]
       have hbor : ((es'[j]?).map fun x => (x.born : Int)).getD 0 = (es'[j].born : Int) := by simp [hj]
       simp only [Instr.mapEntry, Sem.run_bind, run_underlying hu, Result.andThen_ok, hgo, hck, g1, hold, hbor, r1, wm (P := P) hg1 (fun _ _ _ hc => by cases hc)]
       rfl
      ·refine r3.set hb q3 hg (by simp) hg1 (.map _ _ _ _ q2 q3 ?_)
       rw [Array.toList_modify]
       exact q4.yaI r2 j hval
    ·rename_i hf
     obtain ⟨rr, g1, g2⟩ := qE (P := P) K k hx hk q4 hf w
     cases g2
     obtain ⟨z, hz, hzr, hzs⟩ := K.oz hei
     refine ⟨μ, .tuple #[z, goInt c], { w with heap := w.heap.setIfInBounds i.r (.map (es'.push { key := rx, val := z, born := c }) (c + 1)) }, ?_, sj.refl _ _, ?_, .tup _ _ (.cons _ _ _ _ (hzr μ) (.cons _ _ _ _ (.int _ _) .nil))⟩
     ·simp only [Instr.mapEntry, Sem.run_bind, run_underlying hu, Result.andThen_ok, hgo, hck, g1, hz, wm (P := P) q1 (fun _ _ _ hc => by cases hc)]
      rfl
     ·refine k.set hb q3 hg (by simp) q1 (.map _ _ _ _ q2 q3 ?_)
      rw [Array.toList_push]
      exact q4.push hx (hzr μ) c
    ·trivial
   ·trivial
  ·trivial
 ·trivial
theorem findIdx_born {es : List (V × V × Nat)} {res : List MapEntry} (he : jm μ es res) {n : Nat} {v : V} {es2 : List (V × V × Nat)} {rv : Value} (hv : ze μ v rv) (hs : yU es n v = some es2) :
  ∃ i, res.findIdx? (fun e => (e.born : Int) == (n : Int)) = some i ∧ jm μ es2 (res.modify i fun e => { e with val := rv }) := by
 induction es generalizing res es2 with
 | nil => cases hs
 | cons x l ih =>
  cases he with
  | cons k0 v0 b e _ l' h1 h2 h3 hl =>
   simp only [yU] at hs
   cases hb : Nat.beq b n with
   | true =>
    rw [hb] at hs
    cases hs
    rw [fq, decide_eq_true_eq] at hb
    refine ⟨0, ?_, ?_⟩
    ·rw [List.findIdx?_cons]; simp [h3, hb]
    ·simp only [List.modify_zero_cons]; exact .cons _ _ _ _ _ _ h1 hv h3 hl
   | false =>
    rw [hb] at hs
    simp only [cond_false] at hs
    split at hs
    ·rename_i r hr
     cases hs
     obtain ⟨i, g1, g2⟩ := ih hl hr
     rw [fq, decide_eq_false_iff_not] at hb
     refine ⟨i + 1, ?_, ?_⟩
     ·rw [List.findIdx?_cons]
      have : ((e.born : Int) == (n : Int)) = false := by rw [h3]; simp; omega
      simp [this, g1]
     ·simp only [List.modify_succ_cons]; exact .cons _ _ _ _ _ _ h1 h2 h3 g2
    ·cases hs
theorem eZ (k : yg E base w0 μ h w) {tm : List V} {t : Nat} {m s x : Operand} {rm rs rx : Value} (hm : ze μ (ev E tm m) rm) (hs : ze μ (ev E tm s) rs) (hx : ze μ (ev E tm x) rx) {h' : H}
  (hr : ou E tm m s x h = .skip h') : ∃ w', (Instr.entryStore t rm rs rx).run P w = .ok () w' ∧ yg E base w0 μ h' w' := by
 unfold ou at hr
 split at hr
 ·rename_i r kk n hmv hsv
  rw [hmv] at hm
  rw [hsv] at hs
  cases hs
  cases hm with
  | map _ i hb =>
  split at hr
  ·rename_i es c hg
   obtain ⟨es', q1, q2, q3, q4⟩ := k.map hb hg
   have hgo := uj (P := P) q1 (fun _ _ _ hc => by cases hc)
   split at hr
   ·rename_i es2 h2
    cases hr
    obtain ⟨j, g1, g2⟩ := findIdx_born q4 hx h2
    refine ⟨{ w with heap := w.heap.setIfInBounds i.r (.map (es'.modify j fun e => { e with val := rx }) c) }, ?_, ?_⟩
    ·have g1' : es'.findIdx? (fun e => (e.born : Int) == (Int.ofNat n)) = some j := by rw [← Array.toArray_toList (xs := es'), List.findIdx?_toArray]; exact g1
     simp only [Instr.entryStore, Sem.run_bind, Result.andThen_ok, hgo, asInt, asIntOf, Sem.run_pure, g1', wm (P := P) q1 (fun _ _ _ hc => by cases hc)]
    ·refine k.set hb q3 hg (by simp) q1 (.map _ _ _ _ q2 q3 ?_)
     rw [Array.toList_modify]
     exact g2
   ·cases hr
  ·cases hr
 ·cases hr
theorem bap (K : yh P E) (k : yg E base w0 μ h w) {tm : List V} {t : Nat} {x : Operand} {rx : Value} (hx : ze μ (ev E tm x) rx) :
  il E base w0 μ h (xS E tm t x h) ((Instr.range t rx).run P w) := by
 unfold xS
 split
 ·rename_i s hd hv
  rw [hv] at hx
  have hu := K.desc hd (by simp)
  cases hx with
  | str _ b hb =>
   obtain ⟨i, h1, h2, h3, h4⟩ := k.sac (.strIter s 0) (.stringIter b 0) (fun μ' i hs hr _ => .strIter _ _ _ hs hr hb)
   refine ⟨_, .pointer (some ⟨i.r, 0, none⟩), _, ?_, h1, h2, ?_⟩
   ·rw [h3]; simp [Instr.range, run_underlying hu]
   ·have := ze.ptr (μ := μ.upd h.next i) h.next 0 i (Mu.upd_same _ _ _)
    rwa [h4] at this
 ·rename_i kt et hd hv
  rw [hv] at hx
  have hu := K.desc hd (by simp)
  cases hx
  obtain ⟨i, h1, h2, h3, h4⟩ := k.sac (.mapIter none 0 [] 0) (.mapIter none 0 #[] 0) (fun μ' i hs hr _ => .mapIter0 _ _ _ hs hr)
  refine ⟨_, .pointer (some ⟨i.r, 0, none⟩), _, ?_, h1, h2, ?_⟩
  ·rw [h3]; simp [Instr.range, run_underlying hu]
  ·have := ze.ptr (μ := μ.upd h.next i) h.next 0 i (Mu.upd_same _ _ _)
   rwa [h4] at this
 ·rename_i kt et m hd hv
  rw [hv] at hx
  have hu := K.desc hd (by simp)
  split
  ·rename_i es c ro hg
   cases hx with
   | map _ j hb =>
    obtain ⟨es', q1, q2, q3, q4⟩ := k.map hb hg
    have hgo := uj (P := P) q1 (fun _ _ _ hc => by cases hc)
    obtain ⟨i, h1, h2, h3, h4⟩ := k.sac (.mapIter (some m) c [] c) (.mapIter (some j.r) c #[] c) (fun μ' i hs hr hx => .mapIter _ _ _ _ _ hs hr (hx _ _ hb))
    refine ⟨_, .pointer (some ⟨i.r, 0, none⟩), _, ?_, h1, h2, ?_⟩
    ·rw [h3]; simp [Instr.range, run_underlying hu, hgo]
    ·have := ze.ptr (μ := μ.upd h.next i) h.next 0 i (Mu.upd_same _ _ _)
     rwa [h4] at this
  ·trivial
 ·trivial
end
end Go.Ev
end
noncomputable section
namespace Go.Ev
open Go.RowKit (Below)
section
variable {P : Program} {E : Env} {base : Nat} {w0 : World} {μ : Mu} {h : H} {w : World}
theorem fac (n : Nat) : ∀ l : List Nat, bD n l = l.contains n
 | [] => rfl
 | m :: l => by
  simp only [bD, fq, fac n l, List.contains_cons]
  by_cases h : n = m <;> simp [h]
theorem faj (seen : List Nat) {es : List (V × V × Nat)} {res : List MapEntry} (he : jm μ es res) : jm μ (leftOf seen es) (res.filter fun e => !seen.contains e.born) := by
 induction es generalizing res with
 | nil => cases he; exact .nil
 | cons x l ih =>
  cases he with
  | cons k v b e _ l' h1 h2 h3 hl =>
   simp only [leftOf, fac]
   cases hc : seen.contains b with
   | true =>
    have : (!seen.contains e.born) = false := by rw [h3, hc]; rfl
    rw [List.filter_cons_of_neg (by rw [this]; simp)]
    exact ih hl
   | false =>
    have : (!seen.contains e.born) = true := by rw [h3, hc]; rfl
    rw [List.filter_cons_of_pos (by rw [this])]
    exact .cons _ _ _ _ _ _ h1 h2 h3 (ih hl)
theorem rak (since : Nat) {es : List (V × V × Nat)} {res : List MapEntry} (he : jm μ es res) (ho : lI since es = true) : ∀ e ∈ res, e.born < since := by
 induction es generalizing res with
 | nil => cases he; intro e he; cases he
 | cons x l ih =>
  cases he with
  | cons k v b e _ l' h1 h2 h3 hl =>
   simp only [lI, au] at ho
   by_cases hb : b < since
   ·simp [hb] at ho
    intro e' he'
    cases he' with
    | head => omega
    | tail _ hm => exact ih hl ho e' hm
   ·simp [hb] at ho
theorem xam (r m since : Nat) (seen : List Nat) (c : Nat) (h : H) {es : List (V × V × Nat)} {res : List MapEntry} (he : jm μ es res) : ∀ (i : Nat) (e : MapEntry), res[i]? = some e →
  ∃ k v, ze μ k e.key ∧ ze μ v e.val ∧ (V.tup [.bool true, k, v], h.put r (.mapIter (some m) since (snoc seen e.born) c)) ∈ steps r m since seen c h es := by
 induction es generalizing res with
 | nil => cases he; intro i e hi; simp at hi
 | cons x l ih =>
  cases he with
  | cons k v b e0 _ l' h1 h2 h3 hl =>
   intro i e hi
   cases i with
   | zero =>
    simp at hi; subst hi
    exact ⟨k, v, h1, h2, by rw [h3]; simp [steps]⟩
   | succ i =>
    obtain ⟨k', v', g1, g2, g3⟩ := ih hl i e (by simpa using hi)
    exact ⟨k', v', g1, g2, by simp only [steps]; exact List.mem_cons_of_mem _ g3⟩
theorem zaj (b : ByteArray) (pos c : Nat) (hp : bg (gB b) pos = some c) (hc : c < 128) : Utf8.decode b pos = (c, 1) := by
 obtain ⟨h1, h2⟩ := pY rfl hp
 rw [Go.decode_ascii b pos h1 (by rw [h2]; exact hc), h2]
theorem vat (k : yg E base w0 μ h w) {tm : List V} {it : Operand} {str : Bool} {rit : Value} (hx : ze μ (ev E tm it) rit) (ty : TypeId) :
  il E base w0 μ h (kM E tm it str h) ((Instr.next rit str ty).run P w) := by
 unfold kM
 split
 ·rename_i r hv
  rw [hv] at hx
  cases hx with
  | ptr _ _ i hb =>
  split
  ·
   rename_i s pos hg
   obtain ⟨o', ho, hrel⟩ := k.ob r i _ hb hg
   cases hrel with
   | strIter _ _ b g1 g2 g3 =>
    have hgo := uj (P := P) ho (fun _ _ _ hc => by cases hc)
    split
    ·rename_i hn
     refine same k (.tup _ _ (.cons _ _ _ _ (.bool false) .nil)) ?_
     have : ¬ pos < b.size := by
      rw [zg, ← g3] at hn
      simp [gB] at hn
      exact Nat.not_lt.2 hn
     simp [Instr.next, g1, hgo, this]
    ·rename_i c hc
     cases hlt : Nat.blt c 128 with
     | false => trivial
     | true =>
     rw [au, decide_eq_true_eq] at hlt
     simp only [cond_true]
     have hdec := zaj b pos c (by rw [g3]; exact hc) hlt
     have hpos : pos < b.size := by
      obtain ⟨hn, _⟩ := pY g3 hc
      exact hn
     refine ⟨μ, .tuple #[.bool true, goInt pos, .int .i32 c], { w with heap := w.heap.setIfInBounds i.r (.stringIter b (pos + 1)) }, ?_, sj.refl _ _, ?_, .tup _ _ (.cons _ _ _ _ (.bool true) (.cons _ _ _ _ (.int _ _) (.cons _ _ _ _ (.int _ _) .nil)))⟩
     ·simp [Instr.next, g1, hgo, hpos, hdec, wm (P := P) ho (fun _ _ _ hc => by cases hc)]
     ·exact k.set hb g2 hg (by simp) ho (.strIter _ _ _ g1 g2 g3)
  ·
   rename_i a b c hg
   obtain ⟨o', ho, hrel⟩ := k.ob r i _ hb hg
   cases hrel with
   | mapIter0 _ _ _ g1 g2 =>
    have hgo := uj (P := P) ho (fun _ _ _ hc => by cases hc)
    refine same k (.tup _ _ (.cons _ _ _ _ (.bool false) .nil)) ?_
    simp [Instr.next, g1, hgo]
  ·
   rename_i m since seen last hg
   obtain ⟨o', ho, hrel⟩ := k.ob r i _ hb hg
   cases hrel with
   | mapIter _ im _ _ _ g1 g2 g3 =>
    have hgo := uj (P := P) ho (fun _ _ _ hc => by cases hc)
    split
    ·rename_i es c ro hgm
     cases h1 : Nat.ble since last with
     | false => trivial
     | true =>
     cases h2 : lI since es with
     | false => trivial
     | true =>
     rw [bu, decide_eq_true_eq] at h1
     simp only [cond_true]
     obtain ⟨es', q1, q2, q3, q4⟩ := k.map g3 hgm
     have hgo2 := uj (P := P) q1 (fun _ _ _ hc => by cases hc)
     have hold := rak since q4 h2
     have hleft := faj seen q4
     have hno : (!seen.toArray.isEmpty && !es'.isEmpty && es'.all (fun x => decide (x.born ≥ last))) = false := by
      cases he : es'.isEmpty with
      | true => simp
      | false =>
       have hpos : 0 < es'.size := by
        rw [Array.isEmpty_eq_false_iff_exists_mem] at he
        obtain ⟨x, hx⟩ := he
        exact Array.size_pos_of_mem hx
       have hmem : es'[0] ∈ es'.toList := by simp
       have hlt := hold es'[0] hmem
       have : es'.all (fun x => decide (x.born ≥ last)) = false := by
        rw [Array.all_eq_false]
        exact ⟨0, hpos, by simp; omega⟩
       simp [this]
     let L := es'.filter fun e => !seen.toArray.contains e.born
     have hL : L.toList = es'.toList.filter fun e => !seen.contains e.born := by
      simp [L]
     have hLold : L.filter (fun e => decide (e.born < since)) = L := by
      rw [Array.filter_eq_self]
      intro e he
      have : e ∈ es'.toList := by
       have h' : e ∈ L.toList := by simpa using he
       rw [hL] at h'
       exact (List.mem_filter.1 h').1
      simpa using hold e this
     have hLnew : L.filter (fun e => decide (e.born ≥ since)) = #[] := by
      rw [Array.filter_eq_empty_iff]
      intro e he
      have : e ∈ es'.toList := by
       have h' : e ∈ L.toList := by simpa using he
       rw [hL] at h'
       exact (List.mem_filter.1 h').1
      have := hold e this
      simp; omega
     have hck : ∀ n, 0 < n → ∃ kx w1, (choose (.mapNext n)).run P w = .ok kx w1 ∧ kx < n ∧ yg E base w0 μ h w1 ∧ w1.heap = w.heap := by
      intro n hn
      by_cases h1 : n ≤ 1
      ·exact ⟨0, w, by simp [Question.forced, h1], hn, k, rfl⟩
      ·exact ⟨_, { w with drawn := w.drawn + 1 }, by simp [Question.forced, h1]; rfl, by simp only [Question.cut]; exact Nat.mod_lt _ hn, k.drew, rfl⟩
     have hrun : (Instr.next (.pointer (some ⟨i.r, i.sh + 0, none⟩)) false ty).run P w = (do
       match ((if L.isEmpty then #[none] else #[]) ++ (L ++ #[]).map some : Array (Option MapEntry))[← choose (.mapNext ((if L.isEmpty then #[none] else #[]) ++ (L ++ #[]).map some : Array (Option MapEntry)).size)]? with
       | some (some e) =>
        setObj i.r (.mapIter (some im.r) since (seen.toArray.push e.born) c)
        pure (.tuple #[.bool true, e.key, e.val])
       | some none => pure (.tuple #[.bool false])
       | none => stuck "Next: no such candidate" : Sem Value).run P w := by
      unfold Instr.next
      simp only [g1, Nat.add_zero, Sem.run_bind, hgo, Result.andThen_ok, hgo2]
      rw [if_neg (by rw [hno]; simp)]
      simp only [Sem.run_bind]
      rw [hLold, hLnew]
      rfl
     rw [hrun]
     cases hemp : leftOf seen es with
     | nil =>
      have hLe : L = #[] := by
       rw [hemp] at hleft
       cases hl : L.toList with
       | nil => exact Array.toList_inj.1 hl
       | cons x l => rw [← hL, hl] at hleft; cases hleft
      refine same k (.tup _ _ (.cons _ _ _ _ (.bool false) .nil)) ?_
      rw [hLe]
      simp [Question.forced]
     | cons x l =>
      have hLne : L.isEmpty = false := by
       rw [hemp, ← hL] at hleft
       cases hl : L.toList with
       | nil => rw [hl] at hleft; cases hleft
       | cons y l' =>
        rw [Array.isEmpty_eq_false_iff_exists_mem]
        exact ⟨y, by rw [← Array.mem_toList_iff, hl]; simp⟩
      have hpos : 0 < L.size := by
       rw [Array.isEmpty_eq_false_iff_exists_mem] at hLne
       obtain ⟨x, hx⟩ := hLne
       exact Array.size_pos_of_mem hx
      obtain ⟨kx, w1, c1, c2, c3, c4⟩ := hck L.size hpos
      have hsz : ((if L.isEmpty then #[none] else #[]) ++ (L ++ #[]).map some : Array (Option MapEntry)) = L.map some := by simp [hLne]
      rw [hsz]
      have hsz2 : (L.map some).size = L.size := by simp
      have hget : (L.map some)[kx]? = some (some L[kx]) := by simp [c2]
      obtain ⟨kv, vv, e1, e2, e3⟩ := xam r m since seen c h hleft kx L[kx] (by rw [← hL]; simp [c2])
      rw [hemp] at e3
      refine ⟨_, _, e3, μ, .tuple #[.bool true, L[kx].key, L[kx].val], { w1 with heap := w1.heap.setIfInBounds i.r (.mapIter (some im.r) since (seen.toArray.push L[kx].born) c) }, ?_, sj.refl _ _, ?_, .tup _ _ (.cons _ _ _ _ (.bool true) (.cons _ _ _ _ e1 (.cons _ _ _ _ e2 .nil)))⟩
      ·have ho1 : w1.heap[i.r]? = some (.mapIter (some im.r) since seen.toArray last) := by rw [c4]; exact ho
       simp only [Sem.run_bind, hsz2, c1, Result.andThen_ok, hget, wm (P := P) ho1 (fun _ _ _ hc => by cases hc), Sem.run_pure]
      ·have ho1 : w1.heap[i.r]? = some (.mapIter (some im.r) since seen.toArray last) := by rw [c4]; exact ho
       refine c3.set hb g2 hg (by simp) ho1 ?_
       rw [yA, show seen.toArray.push L[kx].born = (seen ++ [L[kx].born]).toArray by simp]
       exact .mapIter _ _ _ _ _ g1 g2 g3
    ·trivial
  ·trivial
 ·trivial
theorem waf : ∀ (l : List Nat) (n : Nat), nX l = some n → l.toArray.back? = some n
 | [], n, h => by cases h
 | [m], n, h => by cases h; rfl
 | m :: m' :: l, n, h => by
  have := waf (m' :: l) n h
  simp at this ⊢
  exact this
theorem uac {n : Nat} {es : List (V × V × Nat)} {res : List MapEntry} (he : jm μ es res) {k v : V} (hf : uC n es = some (k, v)) : ∃ e, res.find? (fun e => e.born == n) = some e ∧ ze μ k e.key ∧ ze μ v e.val := by
 induction es generalizing res with
 | nil => cases hf
 | cons x l ih =>
  cases he with
  | cons k0 v0 b e _ l' h1 h2 h3 hl =>
   simp only [uC] at hf
   cases hb : Nat.beq b n with
   | true =>
    rw [hb] at hf
    cases hf
    rw [fq, decide_eq_true_eq] at hb
    exact ⟨e, by simp [h3, hb], h1, h2⟩
   | false =>
    rw [hb] at hf
    obtain ⟨e', g1, g2⟩ := ih hl hf
    rw [fq, decide_eq_false_iff_not] at hb
    exact ⟨e', by rw [List.find?_cons_of_neg (by simp [h3, hb])]; exact g1, g2⟩
theorem dap (k : yg E base w0 μ h w) {tm : List V} {it : Operand} {rit : Value} (hx : ze μ (ev E tm it) rit) :
  il E base w0 μ h (dK E tm it h) ((Instr.entry rit).run P w) := by
 unfold dK
 split
 ·rename_i r hv
  rw [hv] at hx
  cases hx with
  | ptr _ _ i hb =>
  split
  ·rename_i m since seen stepped hg
   obtain ⟨o', ho, hrel⟩ := k.ob r i _ hb hg
   cases hrel with
   | mapIter _ im _ _ _ g1 g2 g3 =>
    have hgo := uj (P := P) ho (fun _ _ _ hc => by cases hc)
    split
    ·rename_i n es c ro hl hgm
     obtain ⟨es', q1, q2, q3, q4⟩ := k.map g3 hgm
     have hgo2 := uj (P := P) q1 (fun _ _ _ hc => by cases hc)
     cases hc : Nat.beq c stepped with
     | false => trivial
     | true =>
     rw [fq, decide_eq_true_eq] at hc
     simp only [cond_true]
     split
     ·rename_i kk vv hf
      obtain ⟨e, e1, e2, e3⟩ := uac q4 hf
      refine same k (.tup _ _ (.cons _ _ _ _ e2 (.cons _ _ _ _ e3 .nil))) ?_
      have e1' : es'.find? (fun e => e.born == n) = some e := by rw [← Array.find?_toList]; exact e1
      have hlast := waf seen n hl
      simp only [Instr.entry, g1, Nat.add_zero, Sem.run_bind, hgo, Result.andThen_ok, hlast, hgo2, hc, bne_self_eq_false, Bool.false_eq_true, if_false, e1', Sem.run_pure]
     ·trivial
    ·trivial
  ·trivial
 ·trivial
theorem oah (k : yg E base w0 μ h w) {tm : List V} {t : Operand} {n : Nat} {rt : Value} (hx : ze μ (ev E tm t) rt) :
  il E base w0 μ h (kz E tm t n h) ((Instr.extract rt n).run P w) := by
 unfold kz
 split
 ·rename_i l hv
  rw [hv] at hx
  cases hx with
  | tup _ l' hl =>
   refine il.ofO k fun v hv2 => ?_
   obtain ⟨rv, h1, h2⟩ := hl.get n v hv2
   rw [Array.getElem?_toList] at h1
   exact ⟨rv, by simp [Instr.extract, h1], h2⟩
 ·trivial
theorem dZ (K : yh P E) (k : yg E base w0 μ h w) {tm : List V} {x : Operand} {xt a : Nat} {ok : Bool} {rx : Value} (hx : ze μ (ev E tm x) rx) :
  il E base w0 μ h (nu E tm x a ok h) ((Instr.typeAssert rx xt a ok).run P w) := by
 unfold nu
 split
 ·rename_i i ht
  have hu := (K.ty a i ht).desc
  obtain ⟨z, hz, hzr, hzs⟩ := K.oz ht
  split
  ·rename_i ms hd hv
   rw [hv] at hx
   rw [hd] at hu
   cases hx
   cases ok with
   | false => trivial
   | true =>
    refine same k (.tup _ _ (.cons _ _ _ _ (hzr μ) (.cons _ _ _ _ (.bool _) .nil))) ?_
    simp [Instr.typeAssert, run_underlying hu, hz]
  ·trivial
  ·rename_i hv n1
   rw [hv] at hx
   cases hx
   cases ok with
   | false => trivial
   | true =>
    refine same k (.tup _ _ (.cons _ _ _ _ (hzr μ) (.cons _ _ _ _ (.bool _) .nil))) ?_
    cases hd : i.desc <;> first
     | (exact absurd hd (n1 _))
     | (rw [hd] at hu; simp [Instr.typeAssert, run_underlying hu, hz])
  ·rename_i t v hv n1
   rw [hv] at hx
   cases hx with
   | iface _ _ v' hvv =>
   cases hta : Nat.beq t a with
   | true =>
    rw [fq, decide_eq_true_eq] at hta
    subst hta
    simp only [cond_true]
    cases ok with
    | false =>
     refine same k hvv ?_
     cases hd : i.desc <;> first
      | (exact absurd hd (n1 _))
      | (rw [hd] at hu; simp [Instr.typeAssert, run_underlying hu])
    | true =>
     refine same k (.tup _ _ (.cons _ _ _ _ hvv (.cons _ _ _ _ (.bool _) .nil))) ?_
     cases hd : i.desc <;> first
      | (exact absurd hd (n1 _))
      | (rw [hd] at hu; simp [Instr.typeAssert, run_underlying hu])
   | false =>
    rw [fq, decide_eq_false_iff_not] at hta
    simp only [cond_false]
    cases ok with
    | false => trivial
    | true =>
     refine same k (.tup _ _ (.cons _ _ _ _ (hzr μ) (.cons _ _ _ _ (.bool _) .nil))) ?_
     cases hd : i.desc <;> first
      | (exact absurd hd (n1 _))
      | (rw [hd] at hu; simp [Instr.typeAssert, run_underlying hu, hta, hz])
  ·trivial
 ·trivial
end
end Go.Ev
end
noncomputable section
namespace Go.Ev
open Go.RowKit (Below)
section
variable {P : Program} {E : Env} {base : Nat} {w0 : World} {μ : Mu} {h : H} {w : World}
structure Src (P : Program) (w : World) (tx : Nat) (x : Value) (size n : Nat) (zc : Array Value) (new : List Value) (zeros : Bool) : Prop where
 kind : ∃ d, P.underlying tx = some d ∧ (match d with | .int _ => true | _ => false) = zeros
 lenOf : zeros = false → ∀ w', (Builtin.lenOf x).run P w' = .ok n w'
 cells : zeros = false → ∀ w', w'.heap = w.heap → (Builtin.firstCells size n x).run P w' = .ok new.toArray w'
 num : zeros = true → ∃ k, x = .int k n ∧ n ≤ 1000000
 zero : zeros = true → new = (List.replicate n zc.toList).flatten
 len : new.length = n * size
theorem paa (n : Nat) : ∀ (r c : Nat), Builtin.growBy n r c ≤ max c (n + (n + 768) / 4)
 | 0, c => by simp only [Builtin.growBy]; omega
 | r + 1, c => by
  simp only [Builtin.growBy]
  split
  ·omega
  ·have := paa n r (c + (c + 768) / 4)
   omega
theorem xai {need old : Nat} (h : old < need) (hn : need ≤ 1000000) : Builtin.nextslicecap need old ≤ 2000000 := by
 unfold Builtin.nextslicecap
 split
 ·omega
 ·split
  ·omega
  ·have := paa need 4 old
   omega
theorem fD (z : Array Value) (n : Nat) (hz : 0 < z.size) : Builtin.zeroCells z n = ((List.replicate n z.toList).flatten).toArray := by
 rw [← uH z n hz, Array.toArray_toList]
 rfl
theorem yF (K : yh P E) {ts tx e : Nat} {i : Ty} (ty : Nat) (hu : P.underlying ts = some (.slice e)) (ht : E.ty.get e = some i) (hsz : 1 ≤ i.size) (hby : i.bytes ≤ 100000) {x : Value} {n : Nat} {zc : Array Value} {new : List Value} {zr : Bool}
  (hs : Src P w tx x i.size n zc new zr) (hzc : ∀ w, (zeroValue e).run P w = .ok (.agg zc) w ∨ ∃ z, (zeroValue e).run P w = .ok z w ∧ z.cells = zc) (hzs : zc.size = i.size) {a : Addr} {sLen sCap : Nat} (hfit : sLen + n ≤ sCap) {w' : World}
  (hst : (storeCells (a.add (sLen * i.size)) new).run P w = .ok () w') :
  (Builtin.append_ #[ts, tx] ty #[.slice (some a) sLen sCap, x]).run P w = .ok (.slice (some a) (sLen + n) sCap) w' := by
 obtain ⟨d, hd, hk⟩ := hs.kind
 have hz : ∃ z, (∀ w, (zeroValue e).run P w = .ok z w) ∧ z.cells = zc := by
  obtain ⟨z, h1, h2, h3⟩ := K.oz (P := P) ht
  rcases hzc w with h | ⟨z', h, h'⟩
  ·rw [h1] at h; cases h; exact ⟨_, h1, rfl⟩
  ·rw [h1] at h; cases h; exact ⟨_, h1, h'⟩
 obtain ⟨z, hz, hzcell⟩ := hz
 obtain ⟨ti, hti, hts, htb⟩ := K.zU (P := P) ht
 unfold Builtin.append_
 cases zr with
 | false =>
  have hl := hs.lenOf rfl
  have hc := hs.cells rfl w rfl
  cases d <;> first | (cases hk; done) | skip
  all_goals simp only [List.getElem?_toArray, List.getElem?_cons_zero, List.getElem?_cons_succ, Sem.run_bind, run_underlying hu, Result.andThen_ok, K.ow ht, run_underlying hd, Sem.run_pure, Bool.false_eq_true, if_false, hl, hfit, if_true, Bool.not_false, hc, hst]
 | true =>
  obtain ⟨k, rfl, hn⟩ := hs.num rfl
  have hzr := hs.zero rfl
  obtain ⟨k0, rfl⟩ : ∃ k0, d = .int k0 := by cases d <;> first | exact ⟨_, rfl⟩ | (cases hk; done)
  have hw : IntKind.i64.wrap (n : Int) = n := vH (k := .i64) (by show Nat.blt n _ = true; rw [au, decide_eq_true_eq]; omega)
  have h1 : ¬ ((n : Int) < 0) := by omega
  have hb0 : n * i.bytes ≤ 100000000000 := Nat.mul_le_mul hn hby
  have h2 : ¬ ((n : Int) * (ti.bytes : Int) > 2 ^ 48) := by
   rw [htb, ← Int.natCast_mul]; omega
  simp only [List.getElem?_toArray, List.getElem?_cons_zero, List.getElem?_cons_succ, Sem.run_bind, run_underlying hu, Result.andThen_ok, K.ow ht, run_underlying hd, Sem.run_pure, if_true, asInt, asIntOf, hw, h1, if_false, hti, h2, Int.toNat_natCast, hfit, Bool.not_true, Bool.false_eq_true]
  by_cases h0 : n * i.size = 0
  ·have : new = [] := by
    apply List.eq_nil_of_length_eq_zero; rw [hs.len, h0]
   subst this
   simp only [h0, if_true, Sem.run_pure, Result.andThen_ok, hst]
  ·simp only [h0, if_false, Sem.run_bind, hz, Result.andThen_ok, Sem.run_pure, hzcell, fD zc n (by omega), ← hzr, hst]
theorem lD (K : yh P E) {ts tx e : Nat} {i : Ty} (ty : Nat) (hu : P.underlying ts = some (.slice e)) (ht : E.ty.get e = some i) (hsz : 1 ≤ i.size) (hby : i.bytes ≤ 100000) {x : Value} {n : Nat} {zc : Array Value} {new : List Value} {zr : Bool}
  (hs : Src P w tx x i.size n zc new zr) {z : Value} (hz : ∀ w, (zeroValue e).run P w = .ok z w) (hzcell : z.cells = zc) (hzs : zc.size = i.size) {b : Option Addr} {sLen sCap : Nat} (hfit : sCap < sLen + n) (hlim : sLen + n ≤ 1000000) {old : List Value}
  (hold : ∀ w', w'.heap = w.heap → (Builtin.firstCells i.size sLen (.slice b sLen sCap)).run P w' = .ok old.toArray w') :
  ∃ (c : Nat) (rest : List Value), sLen + n ≤ c ∧ rest.length = (c - (sLen + n)) * i.size ∧
   (Builtin.append_ #[ts, tx] ty #[.slice b sLen sCap, x]).run P w = .ok (.slice (some ⟨w.heap.size, 0, none⟩) (sLen + n) c) (({ w with drawn := w.drawn + 1 } : World).alloc (.cells (old ++ new ++ rest).toArray e)) := by
 obtain ⟨d, hd, hk⟩ := hs.kind
 obtain ⟨ti, hti, hts, htb⟩ := K.zU (P := P) ht
 let c := grownCap w (sLen + n) sCap e
 have hc : sLen + n ≤ c := grownCap_ge _ _ _ _
 refine ⟨c, (List.replicate (c - (sLen + n)) zc.toList).flatten, hc, by simp [hzs], ?_⟩
 have hnf : ¬ (sLen + n ≤ sCap) := by omega
 have hbig : ¬ (((sLen + n : Nat) : Int) > IntKind.i64.max) := by
  have : IntKind.i64.max = 9223372036854775807 := by decide
  rw [this]; omega
 have hnx := xai hfit hlim
 have hres : ¬ (Builtin.nextslicecap (sLen + n) sCap * ti.bytes > 2 ^ 48) := by
  have h1 : Builtin.nextslicecap (sLen + n) sCap * i.bytes ≤ 2000000 * 100000 := Nat.mul_le_mul hnx hby
  rw [htb]
  omega
 have hchoose : (choose (.appendCap (sLen + n) sCap e)).run P w = .ok c { w with drawn := w.drawn + 1 } := by simp [Question.forced, c, grownCap]
 have hold1 := hold { w with drawn := w.drawn + 1 } rfl
 have hfin : ∀ nw : Array Value, nw = new.toArray → (newRow e (old.toArray ++ nw ++ Builtin.zeroCells zc (c - (sLen + n)))).run P ({ w with drawn := w.drawn + 1 } : World) =
   .ok ⟨w.heap.size, 0, none⟩ (({ w with drawn := w.drawn + 1 } : World).alloc (.cells (old ++ new ++ (List.replicate (c - (sLen + n)) zc.toList).flatten).toArray e)) := by
  intro nw hnw
  subst hnw
  rw [fD zc _ (by omega)]
  simp only [newRow, Sem.run_bind, run_newObj, Result.andThen_ok, Sem.run_pure, List.append_toArray]
  rfl
 unfold Builtin.append_
 cases zr with
 | false =>
  have hl := hs.lenOf rfl
  have hcc := hs.cells rfl { w with drawn := w.drawn + 1 } rfl
  cases d <;> first | (cases hk; done) | skip
  all_goals simp only [List.getElem?_toArray, List.getElem?_cons_zero, List.getElem?_cons_succ, Sem.run_bind, run_underlying hu, Result.andThen_ok, K.ow ht, run_underlying hd, Sem.run_pure, Bool.false_eq_true, if_false, hl, hnf, hbig, false_and, hti, hres, hchoose, run_askRoom, hold1, Bool.not_false, if_true, hcc, hz, hzcell, hfin _ rfl]
 | true =>
  obtain ⟨k, rfl, hn⟩ := hs.num rfl
  have hzr := hs.zero rfl
  obtain ⟨k0, rfl⟩ : ∃ k0, d = .int k0 := by cases d <;> first | exact ⟨_, rfl⟩ | (cases hk; done)
  have hw : IntKind.i64.wrap (n : Int) = n := vH (k := .i64) (by show Nat.blt n _ = true; rw [au, decide_eq_true_eq]; omega)
  have h1 : ¬ ((n : Int) < 0) := by omega
  have hb0 : n * i.bytes ≤ 100000000000 := Nat.mul_le_mul hn hby
  have h2 : ¬ ((n : Int) * (ti.bytes : Int) > 2 ^ 48) := by
   rw [htb, ← Int.natCast_mul]; omega
  simp only [List.getElem?_toArray, List.getElem?_cons_zero, List.getElem?_cons_succ, Sem.run_bind, run_underlying hu, Result.andThen_ok, K.ow ht, run_underlying hd, Sem.run_pure, if_true, asInt, asIntOf, hw, h1, if_false, hti, h2, Int.toNat_natCast, hnf, hbig, false_and, hres, hchoose, run_askRoom, hold1, Bool.not_true, Bool.false_eq_true]
  by_cases h0 : n * i.size = 0
  ·have : new = [] := by
    apply List.eq_nil_of_length_eq_zero; rw [hs.len, h0]
   subst this
   simp only [h0, if_true, Sem.run_pure, Result.andThen_ok, hz, hzcell]
   rw [hfin #[] rfl]
   rfl
  ·simp only [h0, if_false, Sem.run_bind, hz, Result.andThen_ok, Sem.run_pure, hzcell, fD zc n (by omega), ← hzr]
   rw [hfin _ rfl]
   rfl
theorem bV {h : H} {b o : Nat} {cs : List V} (hr : rd h b o 0 = some cs) : cs = [] := by
 unfold rd at hr
 split at hr
 ·rw [xx] at hr; simp at hr; exact hr
 ·cases hr
theorem sD {r a n size : Nat} {rl : List Value} {c : Nat} (hl : rl.length = n * size) {w' : World} (hc : ∀ j v, rl[j]? = some v → w'.cell? ⟨r, a + j, none⟩ = some v) :
  (Builtin.firstCells size n (.slice (some ⟨r, a, none⟩) n c)).run P w' = .ok rl.toArray w' := by
 simp only [Builtin.firstCells]
 exact mO (P := P) hl hc
theorem gL {w w' : World} (h : w'.heap = w.heap) (a : Addr) : w'.cell? a = w.cell? a := by simp only [World.cell?, h]
theorem oae (K : yh P E) (k : yg E base w0 μ h w) {tx size n : Nat} {xi : Ty} (hxi : E.ty.get tx = some xi) {x : V} {rx : Value} (hx : ze μ x rx) {new : List V} {z : Value} (hzs : z.cells.size = size) {zero : List V} (hzr : ae μ zero z.cells.toList)
  (hs : oaq xi.desc zero size x h = some (new, n)) :
  ∃ newr zr, Src P w tx rx size n z.cells newr zr ∧ ae μ new newr := by
 have hu := (K.ty tx xi hxi).desc
 unfold oaq at hs
 split at hs
 ·rename_i ik hd
  split at hs
  ·rename_i kk m
   obtain ⟨h1, h2⟩ := si hs
   rw [bu, decide_eq_true_eq] at h1
   cases h2
   cases hx
   refine ⟨(List.replicate n z.cells.toList).flatten, true, ⟨⟨_, hu, by rw [hd]⟩, fun hc => (by cases hc), fun hc => (by cases hc), fun _ => ⟨_, rfl, h1⟩, fun _ => rfl, by simp [hzs]⟩, tq hzr n⟩
  ·cases hs
 ·rename_i hne
  have hk : (match xi.desc with | .int _ => true | _ => false) = false := by
   cases hd : xi.desc <;> first | rfl | (exact absurd hd (hne _))
  unfold pae at hs
  split at hs
  ·cases hs
   cases hx
   exact ⟨[], false, ⟨⟨_, hu, hk⟩, fun _ _ => rfl, fun _ _ _ => rfl, fun hc => (by cases hc), fun hc => (by cases hc), by simp⟩, .nil⟩
  ·split at hs
   ·cases hs
    cases hx with
    | str _ b hb =>
     refine ⟨b.data.toList.map fun c => Value.int .u8 c.toNat, false, ⟨⟨_, hu, hk⟩, fun _ _ => ?_, fun _ w' _ => ?_, fun hc => (by cases hc), fun hc => (by cases hc), ?_⟩, ?_⟩
     ·rw [ll, Nat.add_zero, qp hb]; rfl
     ·rw [ll, Nat.add_zero, qp hb]
      simp only [Builtin.firstCells, Sem.run_pure]
      congr 1
      apply Array.toList_inj.1
      simp [ByteArray.data_extract]
     ·rw [ll, Nat.add_zero, qp hb]; simp
     ·rw [← hb]; exact jI _ _
   ·cases hs
  ·rename_i b o m cap
   split at hs
   ·rename_i cs hcs
    cases hs
    cases hx with
    | slE _ _ _ c i hb =>
     obtain ⟨rl, h1, h2, h3⟩ := k.rd hb hcs
     exact ⟨rl, false, ⟨⟨_, hu, hk⟩, fun _ _ => rfl, fun _ w' hw => sD h2 (fun j v hj => by rw [gL hw]; exact h3 j v hj), fun hc => (by cases hc), fun hc => (by cases hc), h2⟩, h1⟩
    | slU _ _ _ c i hb _ _ =>
     obtain ⟨rl, h1, h2, h3⟩ := k.rd hb hcs
     exact ⟨rl, false, ⟨⟨_, hu, hk⟩, fun _ _ => rfl, fun _ w' hw => sD h2 (fun j v hj => by rw [gL hw]; exact h3 j v hj), fun hc => (by cases hc), fun hc => (by cases hc), h2⟩, h1⟩
    | slZ _ _ a i hb _ =>
     rw [Nat.zero_mul] at hcs
     have := bV hcs
     subst this
     exact ⟨[], false, ⟨⟨_, hu, hk⟩, fun _ _ => rfl, fun _ w' hw => by simp [Builtin.firstCells, loadCells, loadCellsFrom], fun hc => (by cases hc), fun hc => (by cases hc), by simp⟩, .nil⟩
   ·cases hs
  ·cases hs
theorem lV (k : yg E base w0 μ h w) {cs new : List V} {old newr rest : List Value} {e need c : Nat} {i : Ty} (ht : E.ty.get e = some i) (hc1 : ae μ cs old) (hc2 : ae μ new newr) (hle : need ≤ c)
  (hl : old.length + newr.length = need * i.size) (hr : rest.length = (c - need) * i.size) :
  ∃ μ' rv, sj μ h.next μ' ∧ yg E base w0 μ' (fresh h (gy cs new) e true) (({ w with drawn := w.drawn + 1 } : World).alloc (.cells (old ++ newr ++ rest).toArray e)) ∧
   rv = .slice (some ⟨w.heap.size, 0, none⟩) need c ∧ ze μ' (.sl h.next 0 need none) rv := by
 have hsz : (old ++ newr ++ rest).length = c * i.size := by
  simp only [List.length_append, hl, hr, ← Nat.add_mul]
  congr 1
  omega
 let j : Info := ⟨w.heap.size, 0, false, c * i.size, i.size, false, nofun⟩
 have hext : Ext μ (μ.upd h.next j) := Ext.upd (k.nxt _ (Nat.le_refl _)).2
 have hcat := (hc1.append hc2).mono hext
 have hlen := hcat.length
 refine ⟨μ.upd h.next j, _, sj.upd (k.nxt _ (Nat.le_refl _)).2, k.drew.alloc _ _ j rfl ?_ rfl, rfl, .slU _ _ _ _ j (Mu.upd_same _ _ _) hle (.inr (by simp [j]))⟩
 refine .cells _ e true false 0 0 false _ 0 0 (by simp [j]; simpa using hsz) rfl (fun t h' => by rw [ht] at h'; cases h'; rfl) (by rw [hlen]; simp [j]) ?_ (fun hc => by cases hc) (fun _ => ⟨fun j _ => by simp, fun _ => ⟨fun _ => rfl, fun h => absurd rfl h⟩⟩)
 have : ((old ++ newr ++ rest).toArray.toList.drop j.sh).take (gy cs new).length = old ++ newr := by
  rw [hlen]
  show ((old ++ newr ++ rest).drop 0).take (old ++ newr).length = _
  rw [List.drop_zero, List.take_left]
 rw [this]
 exact hcat
set_option maxHeartbeats 2000000 in
theorem nak (K : yh P E) (k : yg E base w0 μ h w) {ts tx ty : Nat} {s x : V} {rs rx : Value} (hs : ze μ s rs) (hx : ze μ x rx) :
  il E base w0 μ h (sad E ts tx s x h) ((Builtin.append_ #[ts, tx] ty #[rs, rx]).run P w) := by
 unfold sad
 split
 ·rename_i e hd
  have hu := K.desc hd (by simp)
  split
  ·rename_i i xi ht hxi
   obtain ⟨z, hz, hzr, hzs⟩ := K.oz (P := P) ht
   cases g1 : Nat.ble 1 i.size with
   | false => trivial
   | true =>
   cases g2 : Nat.ble i.bytes 100000 with
   | false => trivial
   | true =>
   rw [bu, decide_eq_true_eq] at g1 g2
   simp only [cond_true]
   split
   ·trivial
   ·rename_i new n hsrc
    obtain ⟨newr, zr, hS, hnew⟩ := oae (P := P) K k hxi hx hzs (ae.cells (hzr μ)) hsrc
    have hzcw : ∀ w, (zeroValue e).run P w = .ok (.agg z.cells) w ∨ ∃ z', (zeroValue e).run P w = .ok z' w ∧ z'.cells = z.cells := fun w => .inr ⟨z, hz w, rfl⟩
    split
    ·
     cases hs
     split
     ·
      have hnil : newr = [] := List.eq_nil_of_length_eq_zero (by rw [hS.len]; simp)
      subst hnil
      refine same k .nilsl ?_
      obtain ⟨d, hd', hk⟩ := hS.kind
      obtain ⟨ti, hti, hts, htb⟩ := K.zU (P := P) ht
      unfold Builtin.append_
      cases zr with
      | false =>
       have hl := hS.lenOf rfl
       have hc := hS.cells rfl w rfl
       cases d <;> first | (cases hk; done) | skip
       all_goals simp only [List.getElem?_toArray, List.getElem?_cons_zero, List.getElem?_cons_succ, Sem.run_bind, run_underlying hu, Result.andThen_ok, K.ow ht, run_underlying hd', Sem.run_pure, Bool.false_eq_true, if_false, hl, Nat.add_zero, Nat.le_refl, if_true, Bool.not_false, hc]
      | true =>
       obtain ⟨kk, rfl, hn⟩ := hS.num rfl
       obtain ⟨k0, rfl⟩ : ∃ k0, d = .int k0 := by cases d <;> first | exact ⟨_, rfl⟩ | (cases hk; done)
       have hw : IntKind.i64.wrap ((0 : Nat) : Int) = 0 := by decide
       have h2 : ¬ ((0 : Int) * (ti.bytes : Int) > 2 ^ 48) := by rw [Int.zero_mul]; decide
       simp only [List.getElem?_toArray, List.getElem?_cons_zero, List.getElem?_cons_succ, Sem.run_bind, run_underlying hu, Result.andThen_ok, K.ow ht, run_underlying hd', Sem.run_pure, if_true, asInt, asIntOf, hw, Int.lt_irrefl, if_false, hti, h2, Int.toNat_zero, Nat.add_zero, Nat.le_refl, Bool.not_true, Bool.false_eq_true, Nat.zero_mul]
     ·rename_i m
      cases g3 : Nat.ble (m + 1) 1000000 with
      | false => trivial
      | true =>
      rw [bu, decide_eq_true_eq] at g3
      simp only [cond_true, grow]
      obtain ⟨c, rest, c1, c2, c3⟩ := lD (P := P) K ty hu ht g1 g2 hS hz rfl hzs (b := none) (sLen := 0) (sCap := 0) (by omega) (by omega) (old := []) (fun w' _ => by simp [Builtin.firstCells])
      rw [Nat.zero_add] at c1 c2 c3
      obtain ⟨μ', rv, q1, q2, rfl, q4⟩ := lV k ht ae.nil hnew c1 (by rw [hS.len]; simp) c2
      exact ⟨μ', _, _, c3, q1, q2, q4⟩
    ·
     rename_i b o len c
     cases hs with
     | slE _ _ _ _ j hb =>
     cases g3 : Nat.ble (len + n) c with
     | true =>
      rw [bu, decide_eq_true_eq] at g3
      simp only [cond_true]
      split
      ·rename_i h' hw
       obtain ⟨w', r1, r2⟩ := k.wr (P := P) hb hw hnew
       have := yF (P := P) K ty hu ht g1 g2 hS hzcw hzs (a := ⟨j.r, j.sh + o, none⟩) g3 (by rw [addr_add, Nat.add_assoc]; exact r1)
       exact ⟨μ, _, w', this, sj.refl _ _, r2, .slE _ _ _ _ j hb⟩
      ·trivial
     | false =>
      rw [bu, decide_eq_false_iff_not] at g3
      simp only [cond_false]
      cases g4 : Nat.ble (len + n) 1000000 with
      | false => trivial
      | true =>
      rw [bu, decide_eq_true_eq] at g4
      simp only [cond_true]
      split
      ·rename_i old hold
       obtain ⟨rl, r1, r2, r3⟩ := k.rd hb hold
       obtain ⟨c', rest, c1, c2, c3⟩ := lD (P := P) K ty hu ht g1 g2 hS hz rfl hzs (b := some ⟨j.r, j.sh + o, none⟩) (sLen := len) (sCap := c) (by omega) g4 (old := rl) (fun w' hw => sD r2 (fun q v hq => by rw [gL hw]; exact r3 q v hq))
       obtain ⟨μ', rv, q1, q2, rfl, q4⟩ := lV k ht r1 hnew c1 (by rw [hS.len, r2, Nat.add_mul]) c2
       exact ⟨μ', _, _, c3, q1, q2, q4⟩
      ·trivial
    ·
     rename_i b o len
     split
     ·rename_i xs be opn ro flo fhi mk hg
      cases g3 : Nat.beq be e with
      | false => trivial
      | true =>
      rw [fq, decide_eq_true_eq] at g3
      subst g3
      simp only [cond_true]
      cases g4 : Nat.ble (o + (len + n) * i.size) (av xs 0) with
      | true =>
       rw [bu, decide_eq_true_eq, ll, Nat.add_zero] at g4
       simp only [cond_true]
       split
       ·rename_i h' hw
        cases hs with
        | slU _ _ _ c j hb hle hend =>
         obtain ⟨cs, lo, hi, p1, p2, p3, p4, p5, p6, p7, p8⟩ := k.cells hb hg
         have hro : j.ro = false := by
          rw [p3]
          unfold wr at hw; rw [hg] at hw
          cases ro with
          | true => cases hw
          | false => rfl
         have hend := hend.resolve_left (fun e => by have := j.hl e; rw [hro] at this; cases this)
         have hes := p4 i ht
         have hfit : len + n ≤ c := by
          have h1 : (len + n) * i.size ≤ c * i.size := by rw [← hes] at hend; omega
          exact Nat.le_of_mul_le_mul_right h1 (by omega)
         obtain ⟨w', r1, r2⟩ := k.wr (P := P) hb hw hnew
         have := yF (P := P) K ty hu ht g1 g2 hS hzcw hzs (a := ⟨j.r, j.sh + o, none⟩) hfit (by rw [addr_add, Nat.add_assoc]; exact r1)
         exact ⟨μ, _, w', this, sj.refl _ _, r2, .slU _ _ _ _ j hb hfit (.inr hend)⟩
        | slZ _ _ a j hb hend =>
         obtain ⟨cs, lo, hi, p1, p2, p3, p4, p5, p6, p7, p8⟩ := k.cells hb hg
         have hro : j.ro = false := by
          rw [p3]
          unfold wr at hw; rw [hg] at hw
          cases ro with
          | true => cases hw
          | false => rfl
         have hend := hend.resolve_left (fun e => by have := j.hl e; rw [hro] at this; cases this)
         have hn0 : n = 0 := by
          rcases Nat.eq_zero_or_pos n with h0 | h0
          ·exact h0
          ·have : 1 * 1 ≤ (0 + n) * i.size := Nat.mul_le_mul (by omega) g1
           omega
         subst hn0
         have hnil : newr = [] := List.eq_nil_of_length_eq_zero (by rw [hS.len]; simp)
         subst hnil
         cases hnew
         obtain ⟨w', r1, r2⟩ := k.wr (P := P) hb hw ae.nil
         have hw' : w' = w := by cases r1; rfl
         subst hw'
         have := yF (P := P) K ty hu ht g1 g2 hS hzcw hzs (a := a) (sLen := 0) (sCap := 0) (Nat.le_refl 0) (w' := w') rfl
         exact ⟨μ, _, w', this, sj.refl _ _, r2, .slZ _ _ _ j hb (.inr hend)⟩
       ·trivial
      | false =>
       rw [bu, decide_eq_false_iff_not, ll, Nat.add_zero] at g4
       simp only [cond_false]
       cases opn with
       | false => trivial
       | true =>
       cases ro with
       | true => trivial
       | false =>
       cases mk with
       | true => trivial
       | false =>
       cases g5 : Nat.beq flo fhi with
       | false => trivial
       | true =>
       cases g6 : Nat.ble (len + n) 1000000 with
       | false => trivial
       | true =>
       cases g7 : Nat.ble 1 n with
       | false => trivial
       | true =>
       cases g8 : lG new with
       | false => trivial
       | true =>
       rw [fq, decide_eq_true_eq] at g5
       rw [bu, decide_eq_true_eq] at g6 g7
       subst g5
       simp only [cond_true, cond_false]
       split
       ·rename_i old hold
        have hbn : b < h.next := Nat.lt_of_not_le fun hle => by have := (k.nxt b hle).1; rw [hg] at this; cases this
        cases hs with
        | slU _ _ _ c j hb hle hend =>
         obtain ⟨cs, lo, hi, p1, p2, p3, p4, p5, p6, p7, p8⟩ := k.cells hb hg
         have hend := hend.resolve_left (fun e => by have := j.hl e; rw [p3] at this; cases this)
         have hes := p4 i ht
         obtain ⟨rl, r1, r2, r3⟩ := k.rd hb hold
         by_cases hfit : len + n ≤ c
         ·
          have hsz : j.sh + o + (len + n) * i.size ≤ cs.size := by
           have h1 : (len + n) * i.size ≤ c * i.size := Nat.mul_le_mul_right _ hfit
           rw [← hes] at hend
           omega
          have hone := oN new newr hnew g8
          have hmul : (len + n) * i.size = len * i.size + n * i.size := Nat.add_mul _ _ _
          have hFz := (p8 rfl).2 rfl
          have hlohi : lo = hi := hFz.1 rfl
          have hst := run_storeCells_cells (P := P) j.r (j.sh + o + len * i.size) newr 0 w (fun q hq => by
            rw [cell_of_row w j.r _ cs be _ p1]
            rw [hS.len] at hq
            simp; omega) (fun q hq => by simp only [World.frozen?, p1, hlohi]; rw [Bool.and_eq_false_iff, decide_eq_false_iff_not, decide_eq_false_iff_not]; omega) hone
          have hrun := yF (P := P) K ty hu ht g1 g2 hS hzcw hzs (a := ⟨j.r, j.sh + o, none⟩) hfit (by rw [addr_add]; exact hst)
          rw [Nat.add_zero] at hrun
          obtain ⟨⟨cs', s1, s2, s3, s4⟩, s5, s6, s7, s8, s9⟩ := bG newr (j.sh + o + len * i.size) w j.r cs be (lo, hi) p1 (.inr (by rw [hS.len]; omega))
          have hk1 := k.turn b j _ .dead (.cells cs' be (lo, hi)) _ hb p3 hg (by simp) s5 s1 (.dead _) s6 ⟨s7, s8, s9⟩
          have hk2 := hk1.alias (.cells (gy old new) be true false 0 0 false) (.cells cs' be (lo, hi)) ⟨j.r, j.sh + o, false, j.size, j.esz, false, nofun⟩ (fun q jq oq hq hoq hdq => by
            rw [H.get_put] at hoq
            by_cases hqb : q = b
            ·rw [if_pos hqb] at hoq; cases hoq; exact absurd rfl hdq
            ·rw [if_neg hqb] at hoq
             exact Ne.symm (k.inj b q j jq _ oq (Ne.symm hqb) hb hq hg hoq (by simp) hdq p3)) (by rw [s6]; exact k.lt b j hb) (k.own b j hb p3) s1 (by
            have hn1 : newr ≠ [] := fun hc => by have := hS.len; have h11 : 1 * 1 ≤ n * i.size := Nat.mul_le_mul g7 g1; rw [hc] at this; simp only [List.length_nil] at this; omega
            have hlen2 : (gy old new).length = (len + n) * i.size := by
             rw [pz, List.length_append, r1.length, r2, hnew.length, hS.len, Nat.add_mul]
            refine .cells _ _ _ _ _ _ _ _ _ _ (s2.trans p2) rfl p4 (by rw [hlen2, s2]; exact hsz) ?_ (fun hc => by cases hc) (fun _ => ⟨fun q _ => by rw [hlohi]; omega, fun _ => ⟨fun _ => hlohi, fun hc => absurd rfl hc⟩⟩)
            rw [hlen2, s3 hn1]
            have hold2 : rl = (cs.toList.drop (j.sh + o)).take (len * i.size) := by
             apply List.ext_getElem?
             intro q
             by_cases hq : q < len * i.size
             ·have h1 : rl[q]? = some rl[q] := by simp [r2, hq]
              have h2 := r3 q _ h1
              rw [cell_of_row w j.r _ cs be _ p1] at h2
              rw [h1, List.getElem?_take, if_pos hq, List.getElem?_drop]
              simpa using h2.symm
             ·rw [List.getElem?_eq_none (by rw [r2]; omega), List.getElem?_eq_none (by simp; omega)]
            have hfin : ((cs.toList.take (j.sh + o + len * i.size) ++ newr ++ cs.toList.drop (j.sh + o + len * i.size + newr.length)).drop (j.sh + o)).take ((len + n) * i.size) = rl ++ newr := by
             have l1 : (cs.toList.take (j.sh + o + len * i.size)).length = j.sh + o + len * i.size := by simp; omega
             rw [List.append_assoc, List.drop_append, l1, show j.sh + o - (j.sh + o + len * i.size) = 0 from by omega, List.drop_zero]
             have l2 : (cs.toList.take (j.sh + o + len * i.size)).drop (j.sh + o) = rl := by
              rw [hold2, List.drop_take]; congr 1; omega
             rw [l2, ← List.append_assoc, List.take_append, List.take_of_length_le (by rw [List.length_append, r2, hS.len]; omega)]
             have : (len + n) * i.size - (rl ++ newr).length = 0 := by rw [List.length_append, r2, hS.len]; omega
             rw [this]
             simp
            rw [hfin]
            exact (r1.append hnew).mono (Ext.upd (hk1.nxt _ (Nat.le_refl _)).2))
          have hn2 : (h.put b .dead).next = h.next := rfl
          rw [hn2] at hk2
          refine ⟨μ.upd h.next ⟨j.r, j.sh + o, false, j.size, j.esz, false, nofun⟩, _, _, hrun, sj.upd (k.nxt _ (Nat.le_refl _)).2, hk2, ?_⟩
          exact .slU _ 0 _ _ _ (Mu.upd_same _ _ _) hfit (.inr (by show c * j.esz + (j.sh + o + 0) = j.size; omega))
         ·
          obtain ⟨c', rest, c1, c2, c3⟩ := lD (P := P) K ty hu ht g1 g2 hS hz rfl hzs (b := some ⟨j.r, j.sh + o, none⟩) (sLen := len) (sCap := c) (by omega) g6 (old := rl) (fun w' hw => sD r2 (fun q v hq => by rw [gL hw]; exact r3 q v hq))
          obtain ⟨μ', rv, q1, q2, rfl, q4⟩ := lV (k.kill b hbn) ht r1 hnew c1 (by rw [hS.len, r2, Nat.add_mul]) c2
          exact ⟨μ', _, _, c3, q1, q2, q4⟩
        | slZ _ _ a j hb hend =>
         rw [Nat.zero_mul] at hold
         have := bV hold
         subst this
         obtain ⟨c', rest, c1, c2, c3⟩ := lD (P := P) K ty hu ht g1 g2 hS hz rfl hzs (b := some a) (sLen := 0) (sCap := 0) (by omega) g6 (old := []) (fun w' hw => by simp [Builtin.firstCells, loadCells, loadCellsFrom])
         obtain ⟨μ', rv, q1, q2, rfl, q4⟩ := lV (k.kill b hbn) ht ae.nil hnew c1 (by rw [hS.len]; simp) c2
         exact ⟨μ', _, _, c3, q1, q2, q4⟩
       ·trivial
     ·trivial
    ·trivial
  ·trivial
 ·trivial
end
end Go.Ev
end
