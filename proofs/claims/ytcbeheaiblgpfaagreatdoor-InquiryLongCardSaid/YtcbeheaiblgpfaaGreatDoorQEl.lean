/- The law InquiryLong: part El. -/
import Derived.KernelRfl
import Derived.Test.YtcbeheaiblgpfaaGreatDoorQEk
set_option linter.unusedVariables false
set_option linter.unusedSimpArgs false
noncomputable section
namespace Go.Ev
section
variable {C : Cx} {good : Nat → V → H → Bool} {fn : Nat} {tm : List V} {k : List It} {ds : List Dd} {kd : CallKind} {rn : Option Nat} {cs : List F} {h : H}
theorem xC (K : kF C) {all rest : List Oper} {o : Oper} {v : V} {h' : H} (hw : zt all tm o = some true) (hv : aop C.E tm o.op h = .val v h') (hle : Nat.ble h.next h'.next = true)
  (hE : Ends C good ⟨⟨fn, zo tm o.dst v, .reg all rest :: k, ds, .run, kd, rn⟩, cs, h'⟩) : Ends C good ⟨⟨fn, tm, .reg all (o :: rest) :: k, ds, .run, kd, rn⟩, cs, h⟩ := by
 refine Ends.qi K ?_
 rw [zh rfl]
 show yt C good (nW C.E C.O ⟨fn, tm, .reg all (o :: rest) :: k, ds, .run, kd, rn⟩ k cs h all (o :: rest))
 unfold nW
 simp only
 rw [hw]
 simp only
 rw [hv]
 unfold gq
 simp only
 unfold pE
 rw [hle]
 exact hE
theorem yak (K : kF C) {all rest : List Oper} {o : Oper} {h' : H} (hw : zt all tm o = some true) (hv : aop C.E tm o.op h = .skip h') (hle : Nat.ble h.next h'.next = true)
  (hE : Ends C good ⟨⟨fn, zo tm o.dst qg, .reg all rest :: k, ds, .run, kd, rn⟩, cs, h'⟩) : Ends C good ⟨⟨fn, tm, .reg all (o :: rest) :: k, ds, .run, kd, rn⟩, cs, h⟩ := by
 refine Ends.qi K ?_
 rw [zh rfl]
 show yt C good (nW C.E C.O ⟨fn, tm, .reg all (o :: rest) :: k, ds, .run, kd, rn⟩ k cs h all (o :: rest))
 unfold nW
 simp only
 rw [hw]
 simp only
 rw [hv]
 unfold gq
 simp only
 unfold pE
 rw [hle]
 exact hE
theorem qau (K : kF C) {all rest : List Oper} {o : Oper} {l : List (V × H)} (hw : zt all tm o = some true) (hv : aop C.E tm o.op h = .alts l)
  (hE : ∀ x ∈ l, Nat.ble h.next x.2.next = true ∧ Ends C good ⟨⟨fn, zo tm o.dst x.1, .reg all rest :: k, ds, .run, kd, rn⟩, cs, x.2⟩) : Ends C good ⟨⟨fn, tm, .reg all (o :: rest) :: k, ds, .run, kd, rn⟩, cs, h⟩ := by
 refine Ends.qi K ?_
 rw [zh rfl]
 show yt C good (nW C.E C.O ⟨fn, tm, .reg all (o :: rest) :: k, ds, .run, kd, rn⟩ k cs h all (o :: rest))
 unfold nW
 simp only
 rw [hw]
 simp only
 rw [hv]
 show yt C good (gU _ cs h.next l)
 have key : ∀ (l : List (V × H)), (∀ x ∈ l, Nat.ble h.next x.2.next = true ∧ Ends C good ⟨⟨fn, zo tm o.dst x.1, .reg all rest :: k, ds, .run, kd, rn⟩, cs, x.2⟩) →
   ∃ ss, jM ⟨fn, tm, .reg all (o :: rest) :: k, ds, .run, kd, rn⟩ cs h.next l = some ss ∧ ∀ s ∈ ss, Ends C good s := by
  intro l
  induction l with
  | nil => intro _; exact ⟨[], rfl, fun s hs => by cases hs⟩
  | cons x l ih =>
   intro hl
   obtain ⟨v, h'⟩ := x
   obtain ⟨h1, h2⟩ := hl _ (List.mem_cons_self ..)
   obtain ⟨ss, h3, h4⟩ := ih fun y hy => hl y (List.mem_cons_of_mem _ hy)
   refine ⟨_, by rw [jM]; unfold finish; simp only; rw [h3]; simp only; rw [h1]; rfl, fun s hs => ?_⟩
   rcases List.mem_cons.1 hs with rfl | hs
   ·exact h2
   ·exact h4 s hs
 obtain ⟨ss, h1, h2⟩ := key l hE
 unfold gU
 rw [h1]
 exact h2
theorem kW (K : kF C) {all : List Oper} (hE : Ends C good ⟨⟨fn, tm, k, ds, .run, kd, rn⟩, cs, h⟩) : Ends C good ⟨⟨fn, tm, .reg all [] :: k, ds, .run, kd, rn⟩, cs, h⟩ := by
 refine Ends.qi K ?_
 rw [zh rfl]
 exact hE
theorem fJ (K : kF C) {a b : Code} (hE : Ends C good ⟨⟨fn, tm, .code a :: .code b :: k, ds, .run, kd, rn⟩, cs, h⟩) : Ends C good ⟨⟨fn, tm, .code (.seq a b) :: k, ds, .run, kd, rn⟩, cs, h⟩ := by
 refine Ends.qi K ?_
 rw [zh rfl]
 exact hE
theorem iaq (K : kF C) (hE : Ends C good ⟨⟨fn, tm, k, ds, .run, kd, rn⟩, cs, h⟩) : Ends C good ⟨⟨fn, tm, .code .skip :: k, ds, .run, kd, rn⟩, cs, h⟩ := by
 refine Ends.qi K ?_
 rw [zh rfl]
 exact hE
theorem kaq (K : kF C) {id : Nat} {b : Code} (hE : Ends C good ⟨⟨fn, tm, .code b :: .inBlock id :: k, ds, .run, kd, rn⟩, cs, h⟩) : Ends C good ⟨⟨fn, tm, .code (.block id b) :: k, ds, .run, kd, rn⟩, cs, h⟩ := by
 refine Ends.qi K ?_
 rw [zh rfl]
 exact hE
theorem oau (K : kF C) {b : Code} (hE : Ends C good ⟨⟨fn, tm, .code b :: .inLoop b :: k, ds, .run, kd, rn⟩, cs, h⟩) : Ends C good ⟨⟨fn, tm, .code (.loop b) :: k, ds, .run, kd, rn⟩, cs, h⟩ := by
 refine Ends.qi K ?_
 rw [zh rfl]
 exact hE
theorem uam (K : kF C) {b : Code} (hE : Ends C good ⟨⟨fn, tm, .code b :: .inLoop b :: k, ds, .run, kd, rn⟩, cs, h⟩) : Ends C good ⟨⟨fn, tm, .inLoop b :: k, ds, .run, kd, rn⟩, cs, h⟩ := by
 refine Ends.qi K ?_
 rw [zh rfl]
 exact hE
theorem jW (K : kF C) {id : Nat} (hE : Ends C good ⟨⟨fn, tm, k, ds, .run, kd, rn⟩, cs, h⟩) : Ends C good ⟨⟨fn, tm, .inBlock id :: k, ds, .run, kd, rn⟩, cs, h⟩ := by
 refine Ends.qi K ?_
 rw [zh rfl]
 exact hE
theorem xG (K : kF C) {id : Nat} {ops : Array Oper} (hE : Ends C good ⟨⟨fn, tm, .reg ops.toList ops.toList :: k, ds, .run, kd, rn⟩, cs, h⟩) : Ends C good ⟨⟨fn, tm, .code (.region id ops false) :: k, ds, .run, kd, rn⟩, cs, h⟩ := by
 refine Ends.qi K ?_
 rw [zh rfl]
 exact hE
theorem pau (K : kF C) {id : Nat} {ops : Array Oper} {p : List (Nat × Nat)} (hp : pJ C.E ops.toList = some p) (hE : Ends C good ⟨⟨fn, tm, .dreg ops.toList (masks ops.toList []) [] p :: k, ds, .run, kd, rn⟩, cs, h⟩) :
  Ends C good ⟨⟨fn, tm, .code (.region id ops true) :: k, ds, .run, kd, rn⟩, cs, h⟩ := by
 refine Ends.qi K ?_
 rw [zh rfl]
 show yt C good (wF C.E C.O ⟨fn, tm, .code (.region id ops true) :: k, ds, .run, kd, rn⟩ k cs h (.region id ops true))
 unfold wF
 simp only
 rw [hp]
 exact hE
theorem wU (K : kF C) {c : Operand} {a b : Code} {y : Bool} (hc : ev C.E tm c = .bool y) (hE : Ends C good ⟨⟨fn, tm, .code (bif y then a else b) :: k, ds, .run, kd, rn⟩, cs, h⟩) :
  Ends C good ⟨⟨fn, tm, .code (.cond c a b) :: k, ds, .run, kd, rn⟩, cs, h⟩ := by
 refine Ends.qi K ?_
 rw [zh rfl]
 show yt C good (wF C.E C.O ⟨fn, tm, .code (.cond c a b) :: k, ds, .run, kd, rn⟩ k cs h (.cond c a b))
 unfold wF
 simp only
 rw [hc]
 cases y
 ·exact hE
 ·exact hE
theorem zak (K : kF C) {id : Nat} {k' : List It} (hx : uE id k = some k') (hE : Ends C good ⟨⟨fn, tm, k', ds, .run, kd, rn⟩, cs, h⟩) : Ends C good ⟨⟨fn, tm, .code (.exit id) :: k, ds, .run, kd, rn⟩, cs, h⟩ := by
 refine Ends.qi K ?_
 rw [zh rfl]
 show yt C good (wF C.E C.O ⟨fn, tm, .code (.exit id) :: k, ds, .run, kd, rn⟩ k cs h (.exit id))
 unfold wF
 simp only
 rw [hx]
 exact hE
theorem yG (K : kF C) {all : List Oper} {ms pend : List Nat} {i c : Nat} {plan : List (Nat × Nat)} {o : Oper} {v : V} {h' : H} (ho : bg all i = some o) (hc : Nat.beq c 2 = false) (hw : zt all tm o = some true)
  (hv : aop C.E tm o.op h = .val v h') (hE : Ends C good ⟨⟨fn, zo tm o.dst v, .dreg all ms (i :: pend) plan :: k, ds, .run, kd, rn⟩, cs, bif Nat.beq c 1 then h' else h⟩) :
  Ends C good ⟨⟨fn, tm, .dreg all ms pend ((i, c) :: plan) :: k, ds, .run, kd, rn⟩, cs, h⟩ := by
 refine Ends.qi K ?_
 rw [zh rfl]
 show yt C good (yJ C.E C.O ⟨fn, tm, .dreg all ms pend ((i, c) :: plan) :: k, ds, .run, kd, rn⟩ k cs h all pend ((i, c) :: plan))
 unfold yJ
 simp only
 rw [ho]
 simp only
 rw [hc, cond_false, hw]
 simp only
 rw [hv]
 simp only
 unfold finish
 simp only
 rw [hc, show zk all i = o.dst from by unfold zk; rw [ho]]
 exact hE
theorem jaq (K : kF C) {all : List Oper} {ms pend : List Nat} (ha : ku C.E all tm h pend = true) (hE : Ends C good ⟨⟨fn, tm, k, ds, .run, kd, rn⟩, cs, h⟩) :
  Ends C good ⟨⟨fn, tm, .dreg all ms pend [] :: k, ds, .run, kd, rn⟩, cs, h⟩ := by
 refine Ends.qi K ?_
 rw [zh rfl]
 show yt C good (yJ C.E C.O ⟨fn, tm, .dreg all ms pend [] :: k, ds, .run, kd, rn⟩ k cs h all pend [])
 unfold yJ
 simp only
 rw [ha]
 exact hE
end
section
variable {E : Env} {tm : List V} {h : H}
theorem kah {t : Nat} {a : Operand} {b o : Nat} {i : Ty} {xs : List V} {e : Nat} {opn ro mk : Bool} {flo fhi : Nat} {v : V} (ha : ev E tm a = .ptr b o) (ht : E.ty.get t = some i) (hd : eG i.desc = false)
  (hg : h.get b = some (.cells xs e opn ro flo fhi mk)) (hv : bg xs o = some v) : aop E tm (.load t a) h = .val v h := by
 show nah E tm t a h = _
 unfold nah loadT rd1
 rw [ha, ht]
 simp only [hd, hg, hv, cond_false]
 rfl
theorem jah {t : Nat} {a x : Operand} {b o : Nat} {i : Ty} {xs ys : List V} {e : Nat} {opn mk : Bool} {flo fhi : Nat} (ha : ev E tm a = .ptr b o) (ht : E.ty.get t = some i) (hs : Nat.beq (av (ev E tm x).cells 0) i.size = true)
  (hg : h.get b = some (.cells xs e opn false flo fhi mk)) (hc : iI flo fhi o (av (ev E tm x).cells 0) = true) (h1 : lG (ev E tm x).cells = true) (hv : gz xs o (ev E tm x).cells = some ys) :
  aop E tm (.store t a x) h = .skip (h.put b (.cells ys e opn false flo fhi mk)) := by
 show nG E tm t a x h = _
 unfold nG storeT wr
 rw [ha, ht]
 simp only [hs, hg, hc, h1, hv, cond_true, cond_false]
 rfl
end
end Go.Ev
end
noncomputable section
namespace Go.Ev
section
variable {E : Env} {tm : List V} {h : H}
theorem qo {t : Nat} {v : V} (ht : bg tm t = some v) : ev E tm (.tmp t) = v := by show (bg tm t).getD qg = v; rw [ht]; rfl
theorem vg {t d : Nat} {v : V} (ht : t < tm.length) : bg (zz tm d v) t = if t = d then some v else bg tm t := jaa t ht
theorem fo {all : List Oper} {o : Oper} (hg : o.guard = none) : zt all tm o = some true := by unfold zt; rw [hg]
theorem aam {x : Operand} {v : V} (hx : ev E tm x = v) : aop E tm (.move x) h = .val v h := by subst hx; rfl
theorem wao {x : Operand} {v : V} (hx : ev E tm x = v) : aop E tm (.assign x) h = .val v h := by subst hx; rfl
theorem xE {x : Operand} {i : Nat} {l : List V} {v : V} (hx : ev E tm x = .tup l) (hv : bg l i = some v) : aop E tm (.extract x i) h = .val v h := by
 show kz E tm x i h = _
 unfold kz
 rw [hx]
 simp only [hv]
 rfl
theorem fU {x : Operand} {r m since stp c : Nat} {seen : List Nat} {es : List (V × V × Nat)} {ro : Bool} (hx : ev E tm x = .ptr r 0) (hr : h.get r = some (.mapIter (some m) since seen stp)) (hm : h.get m = some (.map es c ro))
  (hs : Nat.ble since stp = true) (ho : lI since es = true) (hl : leftOf seen es = []) : aop E tm (.next x false) h = .val (.tup [.bool false]) h := by
 show kM E tm x false h = _
 unfold kM
 rw [hx]
 simp only [hr, hm, hs, ho, hl, cond_true]
theorem tad {x : Operand} {r m since stp c : Nat} {seen : List Nat} {es l : List (V × V × Nat)} {ro : Bool} (hx : ev E tm x = .ptr r 0) (hr : h.get r = some (.mapIter (some m) since seen stp)) (hm : h.get m = some (.map es c ro))
  (hs : Nat.ble since stp = true) (ho : lI since es = true) (hl : leftOf seen es = l) (hne : l ≠ []) : aop E tm (.next x false) h = .alts (steps r m since seen c h l) := by
 show kM E tm x false h = _
 unfold kM
 rw [hx]
 simp only [hr, hm, hs, ho, hl, cond_true]
theorem mat {x : Operand} {r m since stp c n : Nat} {seen : List Nat} {es : List (V × V × Nat)} {ro : Bool} {k v : V} (hx : ev E tm x = .ptr r 0) (hr : h.get r = some (.mapIter (some m) since seen stp)) (hm : h.get m = some (.map es c ro))
  (hn : nX seen = some n) (hc : Nat.beq c stp = true) (hf : uC n es = some (k, v)) : aop E tm (.entry x) h = .val (.tup [k, v]) h := by
 show dK E tm x h = _
 unfold dK
 rw [hx]
 simp only [hr, hn, hm, hc, hf, cond_true]
theorem oat {t : Nat} {i : Ty} (ht : E.ty.get t = some i) : aop E tm (.alloc t) h = .val (.ptr h.next 0) (fresh h i.zero.cells t false) := by
 show fF E t h = _
 unfold fF
 rw [ht]
theorem jQ {s f b o d : Nat} {x : Operand} (hv : rE E s (.ptr b o) f = some (.ptr b (o + d))) (hx : ev E tm x = .ptr b o) : aop E tm (.fieldAddr s x f) h = .val (.ptr b (o + d)) h := by
 show dF E tm s x f h = _
 unfold dF
 rw [hx, hv]
 rfl
theorem uad {t b o len e : Nat} {cap : Option Nat} {x i : Operand} {k : IntKind} {n : Int} {j : Nat} (hd : descOf E t = .slice e) (hh : has E e = true) (hx : ev E tm x = .sl b o len cap) (hi : ev E tm i = .int k n) (hj : idx n len = some j) :
  aop E tm (.indexAddr t x i) h = .val (.ptr b (o + j * oh E e)) h := by
 show bF E tm t x i h = _
 unfold bF nE
 rw [hx, hi, hd]
 simp only [hj, hh, cond_true]
 rfl
theorem lat {t u : Nat} {x y : Operand} {a b : List Nat} (hx : ev E tm x = .str a) (hy : ev E tm y = .str b) : aop E tm (.binOp .eql t x y u) h = .val (.bool (cu a b)) h := by
 show zS E tm .eql t x y h = _
 unfold zS
 rw [hx, hy]
 rfl
end
theorem yam (l : List Nat) (b : Nat) : nX (snoc l b) = some b := by
 induction l with
 | nil => rfl
 | cons x l ih =>
  show nX (x :: snoc l b) = _
  cases hs : snoc l b with
  | nil => rw [yA] at hs; simp at hs
  | cons y r => rw [nX]; rw [hs] at ih; exact ih; intro e; cases e
theorem qD (n b : Nat) (l : List Nat) : bD n (snoc l b) = (bD n l || Nat.beq n b) := by
 rw [bH, bH, yA, fq]
 by_cases h1 : n ∈ l <;> by_cases h2 : n = b <;> simp [h1, h2]
theorem dN {seen : List Nat} : ∀ {es : List (V × V × Nat)} {e : V × V × Nat}, e ∈ leftOf seen es → e ∈ es ∧ bD e.2.2 seen = false
 | [], e, h => by cases h
 | (k, v, b) :: es, e, h => by
  rw [leftOf] at h
  cases hm : bD b seen with
  | true =>
   rw [hm, cond_true] at h
   have := dN h
   exact ⟨List.mem_cons_of_mem _ this.1, this.2⟩
  | false =>
   rw [hm, cond_false] at h
   rcases List.mem_cons.1 h with rfl | h
   ·exact ⟨List.mem_cons_self .., hm⟩
   ·have := dN h
    exact ⟨List.mem_cons_of_mem _ this.1, this.2⟩
theorem bI {seen : List Nat} : ∀ {es : List (V × V × Nat)}, leftOf seen es = [] → ∀ e ∈ es, bD e.2.2 seen = true
 | [], _, e, he => by cases he
 | (k, v, b) :: es, h, e, he => by
  rw [leftOf] at h
  cases hm : bD b seen with
  | true =>
   rw [hm, cond_true] at h
   rcases List.mem_cons.1 he with rfl | he
   ·exact hm
   ·exact bI h e he
  | false => rw [hm, cond_false] at h; cases h
theorem zT {seen : List Nat} {b : Nat} : ∀ {es : List (V × V × Nat)}, (leftOf (snoc seen b) es).length ≤ (leftOf seen es).length
 | [] => Nat.le_refl _
 | (k, v, c) :: es => by
  have ih := zT (seen := seen) (b := b) (es := es)
  rw [leftOf, leftOf, qD]
  cases bD c seen <;> cases Nat.beq c b <;> simp only [Bool.or_true, Bool.or_false, cond_true, cond_false, List.length_cons] <;> omega
theorem sF {seen : List Nat} : ∀ {es : List (V × V × Nat)} {e : V × V × Nat}, e ∈ leftOf seen es → (leftOf (snoc seen e.2.2) es).length < (leftOf seen es).length
 | [], e, h => by cases h
 | (k, v, c) :: es, e, h => by
  have hle := zT (seen := seen) (b := e.2.2) (es := es)
  rw [leftOf] at h
  rw [leftOf, leftOf, qD]
  cases hm : bD c seen with
  | true =>
   rw [hm, cond_true] at h
   simp only [Bool.true_or, cond_true]
   exact sF h
  | false =>
   rw [hm, cond_false] at h
   simp only [Bool.false_or, cond_false, List.length_cons]
   rcases List.mem_cons.1 h with rfl | h
   ·have hle : (leftOf (snoc seen c) es).length ≤ (leftOf seen es).length := hle
    rw [show Nat.beq c c = true from Nat.beq_refl c, cond_true]
    show (leftOf (snoc seen c) es).length < _
    omega
   ·have := sF h
    cases Nat.beq c e.2.2 <;> simp only [cond_true, cond_false, List.length_cons] <;> omega
theorem nae {r m since c : Nat} {seen : List Nat} {h : H} : ∀ {l : List (V × V × Nat)} {x : V × H}, x ∈ steps r m since seen c h l → ∃ e ∈ l, x = (.tup [.bool true, e.1, e.2.1], h.put r (.mapIter (some m) since (snoc seen e.2.2) c))
 | [], x, hx => by cases hx
 | (k, v, b) :: l, x, hx => by
  rw [steps] at hx
  rcases List.mem_cons.1 hx with rfl | hx
  ·exact ⟨_, List.mem_cons_self .., rfl⟩
  ·obtain ⟨e, h1, h2⟩ := nae hx
   exact ⟨e, List.mem_cons_of_mem _ h1, h2⟩
end Go.Ev
end
noncomputable section
namespace Go.Ev
theorem di.hi {E : Env} {μ : Mu} {lo hi hi' : Nat} {ops : Array Oper} {tm : List V} {rtm : Array Value} {pend : List Nat} {dn plan : List (Nat × Nat)} {X L' : List Nat} (h : di E μ lo hi ops tm rtm pend dn plan X L') (hh : hi ≤ hi') : di E μ lo hi' ops tm rtm pend dn plan X L' :=
 ⟨h.hplan, h.hlin, h.hlen, h.hrel, h.hsub, h.hlate, h.hpend, h.hmem, fun i hi hX hc d v b h1 h2 h3 => by
  obtain ⟨g1, g2, g3⟩ := h.hblock i hi hX hc d v b h1 h2 h3
  exact ⟨g1, by omega, g3⟩, h.hapart⟩
theorem qz.hi {E : Env} {μ : Mu} {lo hi hi' : Nat} {tm : List V} {rtm : Array Value} {l : List It} {l' : List Item} (h : qz E μ lo hi tm rtm l l') (hh : hi ≤ hi') : qz E μ lo hi' tm rtm l l' := by
 cases h with
 | plain _ _ h1 h2 => exact .plain _ _ h1 h2
 | draw ops ms pend dn plan X L' k k' h1 h2 h3 => exact .draw ops ms pend dn plan X L' k k' h1 (h2.hi hh) h3
theorem uB.hi {E : Env} {μ : Mu} {lo hi hi' : Nat} {f : F} {fr : Frame} (h : uB E μ lo hi f fr) (hh : hi ≤ hi') : uB E μ lo hi' f fr := by
 refine ⟨h.fn, h.kind, h.rnd, h.defers, ?_⟩
 have := h.mode
 generalize hm : f.mode = m at this
 generalize hm' : fr.mode = m' at this
 cases this with
 | run h1 => exact .run (h1.hi hh)
 | returning h1 => exact .returning h1
 | panicking ch ch' h1 h2 => exact .panicking ch ch' h1 h2
theorem Ends.forget {C : Cx} {good : Nat → V → H → Bool} {f : F} {cs : List F} {h hc : H} (hg : ∀ b o, hc.get b = some o → h.get b = some o) (hn : h.next ≤ hc.next) (he : ∀ b, hc.next ≤ b → hc.get b = none)
  (hE : Ends C good ⟨f, cs, hc⟩) : Ends C good ⟨f, cs, h⟩ := by
 intro m hm
 refine hE m ?_
 obtain ⟨μ, w, fr, rcs, lo, h1, h2, h3, h4, h5, h6, h7⟩ := hm
 refine ⟨μ, w, fr, rcs, lo, h1, ?_, h3, h4, Nat.le_trans h5 hn, h6.hi hn, h7⟩
 exact ⟨fun b i o hb ho => h2.ob b i o hb (hg b o ho), fun b b' i i' o o' hne hb hb' ho ho' => h2.inj b b' i i' o o' hne hb hb' (hg b o ho) (hg b' o' ho'), h2.own, h2.lt, fun b hb => ⟨he b hb, (h2.nxt b (Nat.le_trans hn hb)).2⟩, h2.below, h2.big⟩
def qab (E : Env) (O : Orc) (stop : S → Bool) : Nat → S → Option S
 | 0, _ => none
 | n + 1, s => bif stop s then some s else match uL E O s with
  | .next s' => qab E O stop n s'
  | _ => none
theorem o9 {C : Cx} (K : kF C) {good : Nat → V → H → Bool} {stop : S → Bool} : ∀ (n : Nat) (s s' : S), qab C.E C.O stop n s = some s' → Ends C good s' → Ends C good s
 | 0, s, s', h, _ => by cases h
 | n + 1, s, s', h, hE => by
  rw [qab] at h
  cases hs : stop s with
  | true => rw [hs] at h; cases h; exact hE
  | false =>
   rw [hs, cond_false] at h
   refine Ends.qi K ?_
   split at h
   ·rename_i s1 h1
    rw [h1]
    exact o9 K n s1 s' h hE
   ·cases h
def ofL : List V → Nat → Rg → Rg
 | [], _, q => q
 | v :: l, i, q => ofL l (i + 1) (rgSet i v q)
 where
 rgSet (i : Nat) (v : V) (q : Rg) : Rg := (s2 (i / 16)).f q (w1Set (i % 16) v ((g2 (i / 16)).f q))
 w1Set (i : Nat) (v : V) (w : W1) : W1 := match w with
  | ⟨x0, x1, x2, x3, x4, x5, x6, x7, x8, x9, x10, x11, x12, x13, x14, x15⟩ => match i with
   | 0 => ⟨v, x1, x2, x3, x4, x5, x6, x7, x8, x9, x10, x11, x12, x13, x14, x15⟩
   | 1 => ⟨x0, v, x2, x3, x4, x5, x6, x7, x8, x9, x10, x11, x12, x13, x14, x15⟩
   | 2 => ⟨x0, x1, v, x3, x4, x5, x6, x7, x8, x9, x10, x11, x12, x13, x14, x15⟩
   | 3 => ⟨x0, x1, x2, v, x4, x5, x6, x7, x8, x9, x10, x11, x12, x13, x14, x15⟩
   | 4 => ⟨x0, x1, x2, x3, v, x5, x6, x7, x8, x9, x10, x11, x12, x13, x14, x15⟩
   | 5 => ⟨x0, x1, x2, x3, x4, v, x6, x7, x8, x9, x10, x11, x12, x13, x14, x15⟩
   | 6 => ⟨x0, x1, x2, x3, x4, x5, v, x7, x8, x9, x10, x11, x12, x13, x14, x15⟩
   | 7 => ⟨x0, x1, x2, x3, x4, x5, x6, v, x8, x9, x10, x11, x12, x13, x14, x15⟩
   | 8 => ⟨x0, x1, x2, x3, x4, x5, x6, x7, v, x9, x10, x11, x12, x13, x14, x15⟩
   | 9 => ⟨x0, x1, x2, x3, x4, x5, x6, x7, x8, v, x10, x11, x12, x13, x14, x15⟩
   | 10 => ⟨x0, x1, x2, x3, x4, x5, x6, x7, x8, x9, v, x11, x12, x13, x14, x15⟩
   | 11 => ⟨x0, x1, x2, x3, x4, x5, x6, x7, x8, x9, x10, v, x12, x13, x14, x15⟩
   | 12 => ⟨x0, x1, x2, x3, x4, x5, x6, x7, x8, x9, x10, x11, v, x13, x14, x15⟩
   | 13 => ⟨x0, x1, x2, x3, x4, x5, x6, x7, x8, x9, x10, x11, x12, v, x14, x15⟩
   | 14 => ⟨x0, x1, x2, x3, x4, x5, x6, x7, x8, x9, x10, x11, x12, x13, v, x15⟩
   | _ => ⟨x0, x1, x2, x3, x4, x5, x6, x7, x8, x9, x10, x11, x12, x13, x14, v⟩
theorem pam (w : W1) (v : V) (i j : Nat) (hi : i < 16) (hj : j < 16) : (g1 j).f (ofL.w1Set i v w) = if j = i then v else (g1 j).f w := by
 rcases w with ⟨x0, x1, x2, x3, x4, x5, x6, x7, x8, x9, x10, x11, x12, x13, x14, x15⟩
 rcases paf hi with rfl | rfl | rfl | rfl | rfl | rfl | rfl | rfl | rfl | rfl | rfl | rfl | rfl | rfl | rfl | rfl <;>
 rcases paf hj with rfl | rfl | rfl | rfl | rfl | rfl | rfl | rfl | rfl | rfl | rfl | rfl | rfl | rfl | rfl | rfl <;> rfl
theorem p9 (q : Rg) (v : V) (i t : Nat) (hi : i < 256) (ht : t < 256) : zD (ofL.rgSet i v q) t = if t = i then v else zD q t := by
 unfold ofL.rgSet
 rw [yD, paq _ _ _ (by omega) _ (by omega)]
 by_cases h : t / 16 = i / 16
 ·rw [if_pos h, pam _ _ _ _ (by omega) (by omega)]
  by_cases h' : t % 16 = i % 16
  ·rw [if_pos h', if_pos (by omega)]
  ·rw [if_neg h', if_neg (by omega), yD, h]
 ·rw [if_neg h, if_neg (by omega), yD]
theorem qK : ∀ (l : List V) (i : Nat) (q : Rg) (t : Nat), i + l.length ≤ 256 → t < 256 → zD (ofL l i q) t = if i ≤ t ∧ t < i + l.length then (bg l (t - i)).getD qg else zD q t
 | [], i, q, t, _, _ => by rw [ofL, if_neg (by simp only [List.length_nil]; omega)]
 | v :: l, i, q, t, hi, ht => by
  rw [List.length_cons] at hi
  rw [ofL, qK l (i + 1) _ t (by omega) ht, List.length_cons]
  by_cases e : t = i
  ·subst e
   rw [if_neg (by omega), if_pos (by omega), p9 _ _ _ _ (by omega) ht, if_pos rfl, Nat.sub_self]; rfl
  ·by_cases e2 : i + 1 ≤ t ∧ t < i + 1 + l.length
   ·rw [if_pos e2, if_pos (by omega), show t - i = (t - (i + 1)) + 1 from by omega, yl]
   ·rw [if_neg e2, if_neg (by omega), p9 _ _ _ _ (by omega) ht, if_neg e]
theorem bav (l : List V) (hl : l.length ≤ 256) : dm l.length 0 (ofL l 0 rg0) = l := by
 refine jX (lu _ _ _) fun t ht => ?_
 rw [lu] at ht
 rw [vC, if_pos ht, Nat.zero_add, qK l 0 rg0 t (by omega) (by omega), if_pos (by omega), Nat.sub_zero, zg]
 simp [ht]
def mU (f : F) : Fr := ⟨f.fn, ofL f.tm 0 rg0, f.todo.map (Tk.mk f.fn), f.defers, f.mode, f.kind, f.rnd⟩
def taj (E : Env) (f : F) : Bool := Nat.beq f.tm.length (zl E f.fn) && Nat.ble (zl E f.fn) 256
theorem caj (n : Nat) : ∀ l : List It, (l.map (Tk.mk n)).map Tk.it = l
 | [] => rfl
 | x :: l => by show x :: (l.map (Tk.mk n)).map Tk.it = _; rw [caj n l]
theorem dW {E : Env} {f : F} (h : taj E f = true) : om E (mU f) = f ∧ fau E (mU f) := by
 unfold taj at h
 rw [Bool.and_eq_true, bu, decide_eq_true_eq] at h
 obtain ⟨h1, h2⟩ := h
 have h1 := Nat.eq_of_beq_eq_true h1
 refine ⟨?_, ⟨fun _ t ht => ?_, h2⟩⟩
 ·unfold om mU
  simp only
  rw [← h1, bav _ (by omega), caj]
 ·obtain ⟨x, _, rfl⟩ := List.mem_map.1 ht
  rfl
theorem waj {K : Kit} {C : Cx} {good : Nat → V → H → Bool} (hK : wB K C good) {f : F} {cs : List F} {h : H} {n : Nat} (hm : f.mode = .run) (hf : taj K.E f = true) (hc : ∀ c ∈ cs, taj K.E c = true)
  (hrun : goN K n (ofL f.tm 0 rg0) (f.todo.map (Tk.mk f.fn)) ⟨f.fn, f.defers, f.kind, f.rnd, cs.map mU⟩ h = true) : Ends C good ⟨f, cs, h⟩ := by
 obtain ⟨h1, h2⟩ := dW hf
 have hcs : (cs.map mU).map (om K.E) = cs := by
  clear hrun
  induction cs with
  | nil => rfl
  | cons c cs ih =>
   show om K.E (mU c) :: (cs.map mU).map (om K.E) = _
   rw [(dW (hc c (List.mem_cons_self ..))).1, ih fun d hd => hc d (List.mem_cons_of_mem _ hd)]
 have := rac hK n _ _ _ h ⟨fun t ht => by obtain ⟨x, _, rfl⟩ := List.mem_map.1 ht; rfl, h2.nt, fun c hcc => by
  obtain ⟨d, hd, rfl⟩ := List.mem_map.1 hcc
  exact (dW (hc d hd)).2⟩ hrun
 rw [hcs] at this
 have e : pq K.E (ofL f.tm 0 rg0) (f.todo.map (Tk.mk f.fn)) ⟨f.fn, f.defers, f.kind, f.rnd, cs.map mU⟩ = f := by
  have h1 : om K.E (mU f) = f := h1
  rw [← h1]
  unfold pq om mU
  rw [show f.mode = .run from hm]
  simp only
  rw [show ofL (dm (zl K.E f.fn) 0 (ofL f.tm 0 rg0)) 0 rg0 = ofL f.tm 0 rg0 from by
   have := congrArg F.tm h1
   unfold om mU at this
   simp only at this
   rw [this]]
  rw [caj]
 rw [e] at this
 exact this
end Go.Ev
end
noncomputable section
namespace Go.Ev
open Go.RowKit (Below)
def mf (P : Program) (E : Env) (W : Nat → World → Prop) (es : List Ent) (e : Ent) : Prop :=
 df E.ng e = true ∧ ∃ F, eB E e.f e.args .normal = some F ∧ ∀ C : Cx, C.P = P → C.E = E → C.O = ah E.ng es → W C.base C.w0 → kF C → Ends C (kg e) ⟨F, [], jg e.hin⟩
theorem ug.ends {P : Program} {E : Env} {W : Nat → World → Prop} {es : List Ent} {e : Ent} (h : ug E es e) (hF : ∃ F, eB E e.f e.args .normal = some F) : mf P E W es e := by
 obtain ⟨h1, n, h2⟩ := h
 obtain ⟨F, hF⟩ := hF
 refine ⟨h1, F, hF, fun C _ hE hO _ K => ?_⟩
 obtain ⟨P', E', O', base, w0, mu0, n0, CS⟩ := C
 dsimp only at hE hO
 subst hE
 subst hO
 have hK : wB ⟨E', ah E'.ng es, nk es, kg e⟩ ⟨P', E', ah E'.ng es, base, w0, mu0, n0, CS⟩ (kg e) := ⟨K, rfl, rfl, rfl, pK E'.ng es⟩
 obtain ⟨f1, e1, _, e2⟩ := mH (K := ⟨E', ah E'.ng es, nk es, kg e⟩) (C := ⟨P', E', ah E'.ng es, base, w0, mu0, n0, CS⟩) (good := kg e) (rac hK n) (fun c hc => by cases hc) h2
 have : f1 = F := by have h3 : eB E' e.f e.args .normal = some f1 := e1; rw [hF] at h3; cases h3; rfl
 subst this
 exact e2
theorem ug.wh {P : Program} {E : Env} {W : Nat → World → Prop} {es : List Ent} {e : Ent} (K : yh P E) (h : ug E es e) : mf P E W es e := by
 obtain ⟨h1, n, h2⟩ := h
 refine ug.ends ⟨h1, n, h2⟩ ?_
 have h3 := h2
 unfold ig at h3
 obtain ⟨h3, _⟩ := ni h3
 obtain ⟨fn, b, e1, e2, _, e4, _⟩ := zK h3
 exact ⟨_, by unfold eB; rw [e1]; simp only [e2]; rfl⟩
theorem u6 {P : Program} {E : Env} {O : Orc} (K : yh P E) (X : jF P E) {base : Nat} {w0 : World} (HO : fab P E O base w0) {μ : Mu} {h : H} {w : World}
  (G : sG E μ) (k : yg E base w0 μ h w) {f : Nat} {args : List V} {rargs : Array Value} (ha : ae μ args rargs.toList) {good : Nat → V → H → Bool} {F : F}
  (he : eB E f args .normal = some F) (hE : ∀ C : Cx, C.P = P → C.E = E → C.O = O → C.base = base → C.w0 = w0 → kF C → Ends C good ⟨F, [], h⟩) (hgood : ∀ g v h', good g v h' = true → g = f) :
  Calls P f rargs w fun e w' => ∃ v h', good f v h' = true ∧ ∃ μ' rv, e = .returned rv ∧ sj μ h.next μ' ∧ yg E base w0 μ' h' w' ∧ ze μ' v rv := by
 intro CS
 let C : Cx := ⟨P, E, O, base, w0, μ, h.next, CS⟩
 have KC : kF C := ⟨K, X, HO, G⟩
 have e2 := hE C rfl rfl rfl rfl rfl KC
 obtain ⟨h1, h2, h3⟩ := bQ K (n := h.next) ha he
 have hs : gZ C ⟨F, [], h⟩ (lone (Frame.enter P f rargs .normal) CS w) :=
  ⟨μ, w, _, _, h.next, rfl, k, sj.refl _ _, Nat.le_refl _, Nat.le_refl _, h1, .nil _⟩
 obtain ⟨g, v, h', g1, μ', w', fr, rv, g2, g3, g4, g5, g6, g7⟩ := e2 _ hs
 have := hgood g v h' g1
 subst this
 exact ⟨.returned rv, w', fr, ⟨v, h', g1, μ', rv, rfl, g6, g5, g7⟩, g2, g3, g4⟩
section
variable {P : Program} {E : Env} {base : Nat} {w0 : World} {μ : Mu} {h : H} {w : World} {e : Ent} {args : List V} {g : Nat → Nat}
theorem xaj {O : Orc} {W : Nat → World → Prop} (WM : ∀ base w0 w, W base w0 → Below base w0 w → base ≤ w.heap.size → W w.heap.size w) (hW : W base w0) (K : yh P E) (X : jF P E) (HO : ∀ base w0, W base w0 → fab P E O base w0) (G : sG E μ) (k : yg E base w0 μ h w) {rargs : Array Value} (ha : ae μ args rargs.toList)
  (I : cau E.ng e args h g) {good : Nat → V → H → Bool} {F : F} (he : eB E e.f e.args .normal = some F) (hE : ∀ C : Cx, C.P = P → C.E = E → C.O = O → W C.base C.w0 → kF C → Ends C good ⟨F, [], jg e.hin⟩)
  (hgood : ∀ f v h', good f v h' = true → f = e.f ∧ ∃ g', vak e v h' g') :
  Calls P e.f rargs w fun en w' => ∃ μ' rv, en = .returned rv ∧ sj μ h.next μ' ∧ yg E base w0 μ' (oP (rho e.hin.length h.next g) e.hout h) w' ∧ ze μ' (ren (rho e.hin.length h.next g) e.out) rv := by
 have ha' : ae (mR e.hin.length μ g) e.args rargs.toList := by
  have := ae.move (gag (g := g) _) e.args rargs.toList I.ok (by rw [I.args]; exact ha)
  rw [xH] at this
  exact this
 have hc := u6 K X (HO _ _ (WM _ _ _ hW k.below k.big)) (baw G I) (aaw k I) ha' he (fun C e1 e2 e3 e4 e5 => hE C e1 e2 e3 (by rw [e4, e5]; exact WM _ _ _ hW k.below k.big)) (fun f v h' hg => (hgood f v h' hg).1)
 intro CS
 obtain ⟨en, w', fr, ⟨v, h', hg, μ', rv, h1, h2, h3, h4⟩, h5⟩ := hc CS
 obtain ⟨_, g', U⟩ := hgood _ v h' hg
 rw [aK] at h2
 obtain ⟨h6, h7⟩ := yaq k U h2 h3
 refine ⟨en, w', fr, ⟨_, rv, h1, h6, h7, ?_⟩, h5⟩
 refine ze.move (caa (e := e) (g := g) k U.old h2) e.out rv U.ok ?_
 rw [U.out]
 exact h4
end
end Go.Ev
end
noncomputable section
namespace Go.Ev
open Go.RowKit (Below)
def Kept (W : Nat → World → Prop) : Prop := ∀ base w0 w, W base w0 → Below base w0 w → base ≤ w.heap.size → W w.heap.size w
def kU (P : Program) (E : Env) (W : Nat → World → Prop) (es : List Ent) (e : Ent) : Prop :=
 df E.ng e = true ∧ ((∀ base w0, W base w0 → fab P E (ah E.ng es) base w0) → ∀ base w0 μ h w args (rargs : Array Value) g, W base w0 → sG E μ → yg E base w0 μ h w → ae μ args rargs.toList → cau E.ng e args h g →
  Calls P e.f rargs w fun en w' => ∃ μ' rv, en = .returned rv ∧ sj μ h.next μ' ∧ yg E base w0 μ' (oP (rho e.hin.length h.next g) e.hout h) w' ∧ ze μ' (ren (rho e.hin.length h.next g) e.out) rv)
theorem mf.ok {P : Program} {E : Env} {W : Nat → World → Prop} (WM : Kept W) (K : yh P E) (X : jF P E) {es : List Ent} {e : Ent} (h : mf P E W es e) : kU P E W es e := by
 obtain ⟨h1, F, hF, h2⟩ := h
 exact ⟨h1, fun HO base w0 μ h w args rargs g hW G k ha I => xaj WM hW K X HO G k ha I hF h2 (yR h1)⟩
inductive aj (P : Program) (E : Env) (W : Nat → World → Prop) : List Ent → Prop where
 | nil : aj P E W []
 | cons (e : Ent) (es : List Ent) : kU P E W es e → aj P E W es → aj P E W (e :: es)
theorem nau {P : Program} {E : Env} {W : Nat → World → Prop} {es : List Ent} (T : aj P E W es) : ∀ base w0, W base w0 → fab P E (ah E.ng es) base w0 := by
 induction T with
 | nil => intro base w0 _ f args h l hl; cases hl
 | cons e es hr _ ih =>
  intro base w0 hW f args h l hl μ w rargs G k ha
  rw [ah] at hl
  cases hb : Nat.beq f e.f with
  | false => rw [hb] at hl; exact ih base w0 hW f args h l hl μ w rargs G k ha
  | true =>
   rw [hb, cond_true] at hl
   split at hl
   ·rename_i s hs
    cases hl
    have hf := Nat.eq_of_beq_eq_true hb
    subst hf
    have := hr.2 ih base w0 μ h w args rargs (gOf s) hW G k ha (baj hr.1 hs)
    intro CS
    obtain ⟨en, w', fr, ⟨μ', rv, g1, g2, g3, g4⟩, g5⟩ := this CS
    exact ⟨en, w', fr, ⟨_, _, List.mem_singleton.2 rfl, μ', rv, g1, g2, g3, g4⟩, g5⟩
   ·exact ih base w0 hW f args h l hl μ w rargs G k ha
theorem bas (ρ : Nat → Nat) (h : H) : oP ρ [] h = h := by
 unfold oP
 rfl
theorem kU.pure {P : Program} {E : Env} {W : Nat → World → Prop} {es : List Ent} {e : Ent} (hs : df E.ng e = true) (ho : e.hout = []) {k : IntKind} {n : Int} (hv : e.out = .int k n) {s t : List Nat} (ha : e.args = [.str s, .str t])
  (hc : ∀ (base : Nat) (w0 w : World) (a b : ByteArray), W base w0 → Below base w0 w → base ≤ w.heap.size → gB a = s → gB b = t → Calls P e.f #[.string a, .string b] w fun en w' => en = .returned (.int k n) ∧ w' = w) : kU P E W es e := by
 refine ⟨hs, fun _ base w0 μ h w args rargs g hW G kk hr I => ?_⟩
 have hargs := I.args
 rw [ha] at hargs
 have : args = [.str s, .str t] := by rw [← hargs]; rfl
 subst this
 have : ∃ a b, rargs = #[.string a, .string b] ∧ gB a = s ∧ gB b = t := by
  obtain ⟨l⟩ := rargs
  cases hr with
  | cons _ r1 _ r2 k1 k2 => cases k2 with
   | cons _ r3 _ r4 k3 k4 => cases k4; cases k1; cases k3; exact ⟨_, _, rfl, ‹_›, ‹_›⟩
 obtain ⟨a, b, rfl, h1, h2⟩ := this
 intro CS
 obtain ⟨en, w', fr, ⟨rfl, rfl⟩, h5⟩ := hc base w0 w a b hW kk.below kk.big h1 h2 CS
 refine ⟨_, _, fr, ⟨μ, _, rfl, sj.refl _ _, ?_, ?_⟩, h5⟩
 ·rw [ho, bas]; exact kk
 ·rw [hv]; exact .int k n
end Go.Ev
end
noncomputable section
namespace Go.Ev
theorem vz {z : Value} {v : V} (h : toV z = v) (μ : Mu) : ze μ v z := h ▸ ze.const μ z
def Tr.All {α : Type} (p : Nat → α → Prop) : Tr α → Prop
 | .leaf => True
 | .node v l r => (∀ x, v = some x → p 0 x) ∧ Tr.All (fun k x => p (2 * k + 1) x) l ∧ Tr.All (fun k x => p (2 * k + 2) x) r
theorem Tr.All.get {α : Type} : ∀ {t : Tr α} {p : Nat → α → Prop} {n : Nat} {x : α}, t.All p → t.get n = some x → p n x
 | .leaf, p, n, x, _, h => by cases h
 | .node v l r, p, n, x, ⟨h1, h2, h3⟩, h => by
  rw [Tr.tC, fq, fq] at h
  by_cases hn : n = 0
  ·subst hn; exact h1 x h
  ·rw [decide_eq_false hn, cond_false] at h
   by_cases ho : n % 2 = 1
   ·rw [decide_eq_true ho, cond_true] at h
    have := Tr.All.get h2 h
    rwa [show 2 * (n / 2) + 1 = n from by omega] at this
   ·rw [decide_eq_false ho, cond_false] at h
    have := Tr.All.get h3 h
    rwa [show 2 * (n / 2 - 1) + 2 = n from by omega] at this
def layAll (P : Program) (t : Nat) : List (Nat × Nat) → Prop
 | [] => True
 | (a, b) :: l => liesAt P P.depth t 1 a b 1 = true ∧ layAll P t l
theorem jE {P : Program} {t : Nat} : ∀ {l : List (Nat × Nat)}, layAll P t l → ∀ o u, aaj o u l = true → liesAt P P.depth t 1 o u 1 = true
 | [], _, _, _, h => by cases h
 | (a, b) :: l, ⟨h1, h2⟩, o, u, h => by
  rw [aaj] at h
  cases ha : Nat.beq a o with
  | false => rw [ha, cond_false] at h; exact jE h2 o u h
  | true =>
   rw [ha, cond_true] at h
   cases hb : Nat.beq b u with
   | false => rw [hb, cond_false] at h; exact jE h2 o u h
   | true => rw [← Nat.eq_of_beq_eq_true ha, ← Nat.eq_of_beq_eq_true hb]; exact h1
theorem zb {α : Type} {p : α → Prop} {a : α} (h : p a) : ∀ x, some a = some x → p x := fun x e => by cases e; exact h
theorem bq {α : Type} {p : α → Prop} : ∀ x, (none : Option α) = some x → p x := nofun
end Go.Ev
end
noncomputable section
namespace Go.Ev
mutual
inductive Fg : V → V → Prop where
 | refl (v : V) : Fg v v
 | bad (v : V) : aD v = true → Fg .bad v
 | agg (l l' : List V) : Fgs l l' → Fg (.agg l) (.agg l')
 | tup (l l' : List V) : Fgs l l' → Fg (.tup l) (.tup l')
inductive Fgs : List V → List V → Prop where
 | nil : Fgs [] []
 | cons (v v' : V) (l l' : List V) : Fg v v' → Fgs l l' → Fgs (v :: l) (v' :: l')
end
mutual
theorem Fg.rel {μ : Mu} {c v : V} {r : Value} (h : Fg c v) (k : ze μ v r) : ze μ c r := by
 cases h with
 | refl => exact k
 | bad _ h1 => exact .bad _ (k.one h1)
 | agg l l' h1 => cases k with | agg _ r' k' => exact .agg _ _ (Fgs.rel h1 k')
 | tup l l' h1 => cases k with | tup _ r' k' => exact .tup _ _ (Fgs.rel h1 k')
theorem Fgs.rel {μ : Mu} {c v : List V} {r : List Value} (h : Fgs c v) (k : ae μ v r) : ae μ c r := by
 cases h with
 | nil => exact k
 | cons a a' l l' h1 h2 => cases k with | cons _ r1 _ r2 k1 k2 => exact .cons _ _ _ _ (Fg.rel h1 k1) (Fgs.rel h2 k2)
end
theorem Fgs.of : ∀ (c v : List V), c.length = v.length → (∀ i a b, bg c i = some a → bg v i = some b → Fg a b) → Fgs c v
 | [], [], _, _ => .nil
 | [], _ :: _, h, _ => by cases h
 | _ :: _, [], h, _ => by cases h
 | a :: c, b :: v, h, k => .cons _ _ _ _ (k 0 a b (eu _ _) (eu _ _)) (Fgs.of c v (by simpa using h) fun i x y h1 h2 => k (i + 1) x y (by rw [yl]; exact h1) (by rw [yl]; exact h2))
def ear : List It → Bool
 | .dreg _ _ _ _ :: _ => false
 | _ => true
theorem Ends.fas {C : Cx} {good : Nat → V → H → Bool} {fn : Nat} {tm tmc : List V} {k : List It} {ds : List Dd} {kd : CallKind} {rn : Option Nat} {cs : List F} {h : H} (hf : Fgs tmc tm) (hk : ear k = true)
  (hE : Ends C good ⟨⟨fn, tmc, k, ds, .run, kd, rn⟩, cs, h⟩) : Ends C good ⟨⟨fn, tm, k, ds, .run, kd, rn⟩, cs, h⟩ := by
 intro m hm
 refine hE m ?_
 obtain ⟨μ, w, fr, rcs, lo, h1, h2, h3, h4, h5, h6, h7⟩ := hm
 refine ⟨μ, w, fr, rcs, lo, h1, h2, h3, h4, h5, ⟨h6.fn, h6.kind, h6.rnd, h6.defers, ?_⟩, h7⟩
 have := h6.mode
 simp only at this ⊢
 generalize hm' : fr.mode = m' at this
 cases this with
 | run h8 =>
  refine .run ?_
  generalize hq : fr.todo = q at h8
  cases h8 with
  | plain _ _ g1 g2 => exact .plain _ _ (hf.rel g1) g2
  | draw => cases hk
end Go.Ev
end
