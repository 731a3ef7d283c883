/- The law InquiryLong: part Ei. -/
import Derived.Test.YtcbeheaiblgpfaaGreatDoorQEb
import Derived.Test.YtcbeheaiblgpfaaGreatDoorQEh
set_option linter.unusedVariables false
set_option linter.unusedSimpArgs false
noncomputable section
namespace Go.Ev
theorem paf {i : Nat} (h : i < 16) : i = 0 ∨ i = 1 ∨ i = 2 ∨ i = 3 ∨ i = 4 ∨ i = 5 ∨ i = 6 ∨ i = 7 ∨ i = 8 ∨ i = 9 ∨ i = 10 ∨ i = 11 ∨ i = 12 ∨ i = 13 ∨ i = 14 ∨ i = 15 := by omega
theorem lt8 {i : Nat} (h : i < 8) : i = 0 ∨ i = 1 ∨ i = 2 ∨ i = 3 ∨ i = 4 ∨ i = 5 ∨ i = 6 ∨ i = 7 := by omega
theorem zaI (w : W1) (v : V) (i : Nat) (hi : i < 16) : ∃ w', (∀ k, (s1 i).f w v k = k w') ∧ ∀ j, j < 16 → (g1 j).f w' = if j = i then v else (g1 j).f w := by
 rcases w with ⟨x0, x1, x2, x3, x4, x5, x6, x7, x8, x9, x10, x11, x12, x13, x14, x15⟩
 rcases paf hi with rfl | rfl | rfl | rfl | rfl | rfl | rfl | rfl | rfl | rfl | rfl | rfl | rfl | rfl | rfl | rfl <;>
 exact ⟨_, fun _ => rfl, fun j hj => by rcases paf hj with rfl | rfl | rfl | rfl | rfl | rfl | rfl | rfl | rfl | rfl | rfl | rfl | rfl | rfl | rfl | rfl <;> rfl⟩
theorem paq (w : Rg) (v : W1) (i : Nat) (hi : i < 16) : ∀ j, j < 16 → (g2 j).f ((s2 i).f w v) = if j = i then v else (g2 j).f w := by
 rcases w with ⟨x0, x1, x2, x3, x4, x5, x6, x7, x8, x9, x10, x11, x12, x13, x14, x15⟩
 rcases paf hi with rfl | rfl | rfl | rfl | rfl | rfl | rfl | rfl | rfl | rfl | rfl | rfl | rfl | rfl | rfl | rfl <;>
 exact fun j hj => by rcases paf hj with rfl | rfl | rfl | rfl | rfl | rfl | rfl | rfl | rfl | rfl | rfl | rfl | rfl | rfl | rfl | rfl <;> rfl
def zD (q : Rg) (t : Nat) : V := (fan t).get q
theorem yD (q : Rg) (t : Nat) : zD q t = (g1 (t % 16)).f ((g2 (t / 16)).f q) := rfl
theorem wae (q : Rg) (v : V) (d : Nat) (hd : d < 256) : ∃ q', (∀ k, (jai d).set q v k = k q') ∧ ∀ t, t < 256 → zD q' t = if t = d then v else zD q t := by
 obtain ⟨w', h1, h2⟩ := zaI ((g2 (d / 16)).f q) v (d % 16) (by omega)
 refine ⟨(s2 (d / 16)).f q w', fun k => ?_, fun t ht => ?_⟩
 ·show (s1 (d % 16)).f ((g2 (d / 16)).f q) v (fun w => k ((s2 (d / 16)).f q w)) = _
  rw [h1]
 ·rw [yD, paq _ _ _ (by omega) _ (by omega)]
  by_cases h : t / 16 = d / 16
  ·rw [if_pos h, h2 _ (by omega)]
   by_cases h' : t % 16 = d % 16
   ·rw [if_pos h', if_pos (by omega)]
   ·rw [if_neg h', if_neg (by omega), yD, h]
  ·rw [if_neg h, if_neg (by omega), yD]
theorem vC : ∀ (n i : Nat) (q : Rg) (t : Nat), bg (dm n i q) t = if t < n then some (zD q (i + t)) else none
 | 0, i, q, t => by rw [dm, tJ, if_neg (by omega)]
 | n + 1, i, q, 0 => by rw [dm, eu, if_pos (by omega)]; rfl
 | n + 1, i, q, t + 1 => by
  rw [dm, yl, vC n (i + 1) q t]
  by_cases h : t < n
  ·rw [if_pos h, if_pos (by omega), show i + 1 + t = i + (t + 1) from by omega]
  ·rw [if_neg h, if_neg (by omega)]
theorem lu : ∀ (n i : Nat) (q : Rg), (dm n i q).length = n
 | 0, _, _ => rfl
 | n + 1, i, q => by rw [dm, List.length_cons, lu n]
theorem jX {l m : List V} (hl : l.length = m.length) (h : ∀ t, t < l.length → bg l t = bg m t) : l = m := by
 apply List.ext_getElem?
 intro t
 by_cases ht : t < l.length
 ·have := h t ht; rw [zg, zg] at this; exact this
 ·rw [List.getElem?_eq_none (by omega), List.getElem?_eq_none (by omega)]
theorem ve {α : Type} (l : List α) (d : Nat) (v : α) : (zz l d v).length = l.length := by rw [jV, List.length_set]
theorem jaa {l : List V} {d : Nat} {v : V} (t : Nat) (ht : t < l.length) : bg (zz l d v) t = if t = d then some v else bg l t := by
 rw [zg, jV, zg, List.getElem?_set]
 by_cases h : d = t
 ·subst h; simp [ht]
 ·rw [if_neg h, if_neg (fun e => h e.symm)]
theorem qaq (q : Rg) (v : V) (d n : Nat) (hd : d < n) (hn : n ≤ 256) : ∃ q', (∀ k, (jai d).set q v k = k q') ∧ dm n 0 q' = zz (dm n 0 q) d v := by
 obtain ⟨q', h1, h2⟩ := wae q v d (by omega)
 refine ⟨q', h1, jX (by rw [ve, lu, lu]) fun t ht => ?_⟩
 rw [lu] at ht
 rw [jaa _ (by rw [lu]; exact ht), vC, vC, if_pos ht, if_pos ht, Nat.zero_add, h2 t (by omega)]
 by_cases h : t = d <;> simp [h]
theorem jr (E : Env) (nt : Nat) (q : Rg) (x : Operand) : (opd E nt x).get q = ev E (dm nt 0 q) x := by
 cases x with
 | tmp t =>
  show (match Nat.blt t nt with | true => fan t | false => ⟨fun _ => qg⟩ : Rd).get q = (bg (dm nt 0 q) t).getD qg
  rw [vC, au, Nat.zero_add]
  by_cases h : t < nt
  ·rw [if_pos h, decide_eq_true h]; rfl
  ·rw [if_neg h, decide_eq_false h]; rfl
 | const v =>
  show _ = toV v
  unfold opd
  simp only
  split <;> simp_all
 | global g =>
  show (match Nat.blt g E.ng with | true => ⟨fun _ => .ptr g 0⟩ | false => ⟨fun _ => .bad⟩ : Rd).get q = bif Nat.blt g E.ng then .ptr g 0 else .bad
  generalize Nat.blt g E.ng = b
  cases b <;> rfl
 | func f => rfl
theorem uO (E : Env) (nt : Nat) (q : Rg) : ∀ l : List Operand, (zaq E nt l).get q = evs E (dm nt 0 q) l
 | [] => rfl
 | x :: l => by
  show (opd E nt x).get q :: (zaq E nt l).get q = _
  rw [jr, uO E nt q l]; rfl
theorem kaw (t : L1) (i : Nat) (hi : i < 8) : (hs1 i).get t = t.get i := by
 rcases lt8 hi with rfl | rfl | rfl | rfl | rfl | rfl | rfl | rfl <;> rfl
theorem jaw (t : L1) (x : Option Ob) (i : Nat) (hi : i < 8) (k : L1 → B) : (hs1 i).set t x k = k (t.set x i) := by
 rcases t with ⟨a, b, c, d, e, f, g, h⟩
 rcases lt8 hi with rfl | rfl | rfl | rfl | rfl | rfl | rfl | rfl <;> rfl
theorem sal (t : L2) (i : Nat) (hi : i < 8) : (hs2 i).get t = t.get i := by
 rcases lt8 hi with rfl | rfl | rfl | rfl | rfl | rfl | rfl | rfl <;> rfl
theorem iaw (t : L2) (x : L1) (i : Nat) (hi : i < 8) (k : L2 → B) : (hs2 i).set t x k = k (t.set x i) := by
 rcases t with ⟨a, b, c, d, e, f, g, h⟩
 rcases lt8 hi with rfl | rfl | rfl | rfl | rfl | rfl | rfl | rfl <;> rfl
theorem ral (t : L3) (i : Nat) (hi : i < 8) : (hs3 i).get t = t.get i := by
 rcases lt8 hi with rfl | rfl | rfl | rfl | rfl | rfl | rfl | rfl <;> rfl
theorem gaw (t : L3) (x : L2) (i : Nat) (hi : i < 8) (k : L3 → B) : (hs3 i).set t x k = k (t.set x i) := by
 rcases t with ⟨a, b, c, d, e, f, g, h⟩
 rcases lt8 hi with rfl | rfl | rfl | rfl | rfl | rfl | rfl | rfl <;> rfl
theorem qal (t : L4) (i : Nat) (hi : i < 8) : (hs4 i).get t = t.get i := by
 rcases lt8 hi with rfl | rfl | rfl | rfl | rfl | rfl | rfl | rfl <;> rfl
theorem faw (t : L4) (x : L3) (i : Nat) (hi : i < 8) (k : L4 → B) : (hs4 i).set t x k = k (t.set x i) := by
 rcases t with ⟨a, b, c, d, e, f, g, h⟩
 rcases lt8 hi with rfl | rfl | rfl | rfl | rfl | rfl | rfl | rfl <;> rfl
theorem pal (t : L5) (i : Nat) (hi : i < 8) : (hs5 i).get t = t.get i := by
 rcases lt8 hi with rfl | rfl | rfl | rfl | rfl | rfl | rfl | rfl <;> rfl
theorem eaw (t : L5) (x : L4) (i : Nat) (hi : i < 8) (k : L5 → B) : (hs5 i).set t x k = k (t.set x i) := by
 rcases t with ⟨a, b, c, d, e, f, g, h⟩
 rcases lt8 hi with rfl | rfl | rfl | rfl | rfl | rfl | rfl | rfl <;> rfl
theorem kan {o : Option Ob} {k : Ob → B} (h : oaJ o k = true) : ∃ x, o = some x ∧ k x = true := by
 cases o with
 | none => cases h
 | some x => exact ⟨x, rfl, h⟩
theorem zX {h : H} {b : Nat} {k : Ob → B} (hk : (zZ b).get h.t k = true) : ∃ o, h.get b = some o ∧ k o = true := by
 unfold zZ at hk
 by_cases hb : b < 32768
 ·have e : Nat.blt b 32768 = true := by rw [au, decide_eq_true hb]
  rw [e] at hk
  have hk : oaJ ((hs1 (b % 8)).get ((hs2 (b / 8 % 8)).get ((hs3 (b / 64 % 8)).get ((hs4 (b / 512 % 8)).get ((hs5 (b / 4096)).get h.t))))) k = true := hk
  obtain ⟨o, h1, h2⟩ := kan hk
  refine ⟨o, ?_, h2⟩
  rw [kaw _ _ (by omega), sal _ _ (by omega), ral _ _ (by omega), qal _ _ (by omega), pal _ _ (by omega)] at h1
  rw [H.get_eq, e, cond_true]
  exact h1
 ·have e : Nat.blt b 32768 = false := by rw [au, decide_eq_false hb]
  rw [e] at hk
  cases hk
theorem jH {h : H} {b : Nat} {o : Ob} {k : H → B} (hk : aao h b o k = true) : k (h.put b o) = true := by
 unfold aao zZ at hk
 by_cases hb : b < 32768
 ·have e : Nat.blt b 32768 = true := by rw [au, decide_eq_true hb]
  rw [e] at hk
  have hk : (hs1 (b % 8)).set ((hs2 (b / 8 % 8)).get ((hs3 (b / 64 % 8)).get ((hs4 (b / 512 % 8)).get ((hs5 (b / 4096)).get h.t)))) (some o) (fun t1 =>
   (hs2 (b / 8 % 8)).set ((hs3 (b / 64 % 8)).get ((hs4 (b / 512 % 8)).get ((hs5 (b / 4096)).get h.t))) t1 (fun t2 =>
   (hs3 (b / 64 % 8)).set ((hs4 (b / 512 % 8)).get ((hs5 (b / 4096)).get h.t)) t2 (fun t3 =>
   (hs4 (b / 512 % 8)).set ((hs5 (b / 4096)).get h.t) t3 (fun t4 => (hs5 (b / 4096)).set h.t t4 (fun t => k ⟨h.next, t, h.ov⟩))))) = true := hk
  rw [jaw _ _ _ (by omega), iaw _ _ _ (by omega), gaw _ _ _ (by omega), faw _ _ _ (by omega), eaw _ _ _ (by omega),
   sal _ _ (by omega), ral _ _ (by omega), qal _ _ (by omega), pal _ _ (by omega)] at hk
  unfold H.put
  rw [e, cond_true, cond_true, L5.put_eq]
  exact hk
 ·have e : Nat.blt b 32768 = false := by rw [au, decide_eq_false hb]
  rw [e] at hk
  cases hk
theorem kH {h : H} {o : Ob} {k : Nat → H → B} (hk : bao h o k = true) : k h.next (h.new o) = true := by
 rcases h with ⟨n, t, ov⟩
 have key : ∀ m, m = n → (zZ m).set t o (fun t => k m ⟨m + 1, t, ov⟩) = true → k n ((⟨n, t, ov⟩ : H).new o) = true := by
  intro m hm h
  subst hm
  exact jH (h := ⟨m, t, ov⟩) (b := m) (o := o) (k := fun h' => k m ⟨m + 1, h'.t, h'.ov⟩) h
 cases n with
 | zero => exact key 0 rfl hk
 | succ m => exact key (m + 1) rfl hk
end Go.Ev
end
noncomputable section
namespace Go.Ev
theorem y7 {v : V} {f : IntKind → Int → B} (h : laI v f = true) : ∃ k n, v = .int k n ∧ f k n = true := by
 cases v <;> first | exact ⟨_, _, rfl, h⟩ | cases h
theorem oM {v : V} {f : Bool → B} (h : l8 v f = true) : ∃ b, v = .bool b ∧ f b = true := by
 cases v <;> first | exact ⟨_, rfl, h⟩ | cases h
theorem vG {v : V} {f : Nat → Nat → B} (h : sam v f = true) : ∃ b o, v = .ptr b o ∧ f b o = true := by
 cases v <;> first | exact ⟨_, _, rfl, h⟩ | cases h
theorem ram {v : V} {f : List V → B} (h : kaI v f = true) : ∃ l, v = .tup l ∧ f l = true := by
 cases v <;> first | exact ⟨_, rfl, h⟩ | cases h
theorem cai {v : V} {f : Fn → List V → List V → B} (h : oax v f = true) : ∃ a b c, v = .func a b c ∧ f a b c = true := by
 cases v <;> first | exact ⟨_, _, _, rfl, h⟩ | cases h
theorem xB {v : V} {f : IntKind → Int → B} {e : B} (h : xV v f e = true) : (∃ k n, v = .int k n ∧ f k n = true) ∨ e = true := by
 cases v <;> first | exact .inl ⟨_, _, rfl, h⟩ | exact .inr h
theorem xq {b : Bool} {e t : B} (h : @Bool.rec (fun _ => B) e t b = true) : (b = true ∧ t = true) ∨ (b = false ∧ e = true) := by
 cases b
 ·exact .inr ⟨rfl, h⟩
 ·exact .inl ⟨rfl, h⟩
theorem ni {b : Bool} {t : B} (h : @Bool.rec (fun _ => B) false t b = true) : b = true ∧ t = true := by
 cases b
 ·cases h
 ·exact ⟨rfl, h⟩
theorem lan {o : Option (List V)} {k : List V → B} (h : optL o k = true) : ∃ v, o = some v ∧ k v = true := by
 cases o with
 | none => cases h
 | some v => exact ⟨v, rfl, h⟩
theorem kX {l : List V} : ∀ {n : Nat} {k : V → B}, kal l n k = true → ∃ v, bg l n = some v ∧ k v = true := by
 induction l with
 | nil => intro n k h; cases h
 | cons x l ih =>
  intro n k h
  cases n with
  | zero => exact ⟨x, rfl, h⟩
  | succ n => exact ih (n := n) h
theorem daj {l : List V} : ∀ {n : Nat} {v : V} {k : List V → B}, tax l n v k = true → gz l n [v] = some (zz l n v) ∧ k (zz l n v) = true := by
 induction l with
 | nil => intro n v k h; cases h
 | cons x l ih =>
  intro n v k h
  cases n with
  | zero => exact ⟨by rw [qy, uy]; rfl, h⟩
  | succ n =>
   obtain ⟨h1, h2⟩ := ih (n := n) (k := fun l' => k (x :: l')) h
   exact ⟨by rw [aA, h1]; rfl, h2⟩
theorem bU {h : H} {b : Nat} {k : List V → B} (hk : naj h b k = true) : ∃ xs e opn ro flo fhi mk, h.get b = some (.cells xs e opn ro flo fhi mk) ∧ k xs = true := by
 obtain ⟨o, h1, h2⟩ := zX hk
 cases o <;> first | exact ⟨_, _, _, _, _, _, _, h1, h2⟩ | cases h2
def kax (r : Res) (v : V) (h : H) : Prop := r = .val v h ∨ (r = .skip h ∧ v = qg)
def gK (E : Env) (nt : Nat) (f : Rg → H → KV → B) (o : Op) : Prop :=
 ∀ q h k, f q h k = true → ∃ v h', kax (aop E (dm nt 0 q) o h) v h' ∧ Nat.ble h.next h'.next = true ∧ k v h' = true
theorem dan {n : Nat} {r : Res} {k : KV} (h : daJ n r k = true) : ∃ v h', kax r v h' ∧ Nat.ble n h'.next = true ∧ k v h' = true := by
 cases r with
 | val v h' => obtain ⟨h1, h2⟩ := ni h; exact ⟨v, h', .inl rfl, h1, h2⟩
 | skip h' => obtain ⟨h1, h2⟩ := ni h; exact ⟨qg, h', .inr ⟨rfl, rfl⟩, h1, h2⟩
 | _ => cases h
theorem ek (n : Nat) : Nat.ble n n = true := by rw [bu]; simp
theorem qY (n : Nat) : Nat.ble n (n + 1) = true := by rw [bu]; simp
theorem eag (ts : List Nat) (x : Operand) : mP (fT ts x) = mP x := by cases x <;> rfl
section
variable {E : Env} {tm tm' : List V} {ts : List Nat}
theorem yP {l : List Operand} (h : ∀ x ∈ l, ev E tm' (fT ts x) = ev E tm x) : evs E tm' (bN ts l) = evs E tm l := by
 induction l with
 | nil => rfl
 | cons x l ih => rw [bN, evs, evs, h x (List.mem_cons_self ..), ih fun y hy => h y (List.mem_cons_of_mem _ hy)]
theorem rag {l : List (Nat × Operand)} (h : ∀ x ∈ l, ev E tm' (fT ts x.2) = ev E tm x.2) : evp E tm' (jac ts l) = evp E tm l := by
 induction l with
 | nil => rfl
 | cons x l ih =>
  obtain ⟨i, x⟩ := x
  rw [jac, evp, evp, h (i, x) (List.mem_cons_self ..), ih fun y hy => h y (List.mem_cons_of_mem _ hy)]
theorem yal {o : Option Operand} {d : Nat} (h : ∀ x, o = some x → ev E tm' (fT ts x) = ev E tm x) : bnd E tm' (fTO ts o) d = bnd E tm o d := by
 cases o with
 | none => rfl
 | some x => show bnd E tm' (some (fT ts x)) d = _; unfold bnd; simp only; rw [h x rfl]
theorem bag (o : Option Operand) : jD (fTO ts o) = jD o := by cases o <;> rfl
theorem oaj (E : Env) (t : Nat) (ts : List Nat) (x y : Operand) (a b : V) : nC E t (fT ts x) (fT ts y) a b = nC E t x y a b := by
 unfold nC
 simp only [eag]
theorem wad {t : Nat} {x x' : Operand} {l u m l' u' m' : Option Operand} {h : H} (hx : ev E tm' x' = ev E tm x) (hl : ∀ d, bnd E tm' l' d = bnd E tm l d) (hu : ∀ d, bnd E tm' u' d = bnd E tm u d)
  (hs : jD u' = jD u) (hm : (m' = none ∧ m = none) ∨ ∃ y' y, m' = some y' ∧ m = some y ∧ ev E tm' y' = ev E tm y) : nI E tm' t x' l' u' m' h = nI E tm t x l u m h := by
 unfold nI
 simp only [hx, hl, hu, hs]
 generalize descOf E t = d
 generalize ev E tm x = v
 rcases hm with ⟨rfl, rfl⟩ | ⟨y', y, rfl, rfl, hy⟩
 ·cases d <;> first | rfl | (cases v <;> first | rfl | (rename_i cap; cases cap <;> rfl))
 ·cases d <;> first | rfl | (cases v <;> first | rfl | (rename_i cap; cases cap <;> (simp only [hy] <;> rfl)) | (simp only [hy]; done) | (dsimp only; generalize bnd E tm l 0 = p; generalize bnd E tm u _ = p2; cases p <;> cases p2 <;> rfl))
theorem kat {o o' : Op} {h : H} (hm : mapO ts o = some o') (hv : ∀ x ∈ o.operands.toList, ev E tm' (fT ts x) = ev E tm x) : aop E tm' o' h = aop E tm o h := by
 cases o with
 | build t ps =>
  cases hm
  have : evp E tm' (jac ts ps.toList) = evp E tm ps.toList := rag fun x hx => hv x.2 (by simp only [Op.operands]; exact List.mem_map_of_mem (f := Prod.snd) hx)
  show dae E tm' t ⟨jac ts ps.toList⟩ h = dae E tm t ps h
  unfold dae
  rw [this]
 | buildSlice t n ps =>
  cases hm
  have : evp E tm' (jac ts ps.toList) = evp E tm ps.toList := rag fun x hx => hv x.2 (by simp only [Op.operands]; exact List.mem_map_of_mem (f := Prod.snd) hx)
  show uq E tm' t n ⟨jac ts ps.toList⟩ h = uq E tm t n ps h
  unfold uq
  rw [this]
 | makeFunc fn a b =>
  cases hm
  have h1 : evs E tm' (bN ts a.toList) = evs E tm a.toList := yP fun x hx => hv x (by simp only [Op.operands, Array.toList_append]; exact List.mem_append.2 (.inl hx))
  have h2 : evs E tm' (bN ts b.toList) = evs E tm b.toList := yP fun x hx => hv x (by simp only [Op.operands, Array.toList_append]; exact List.mem_append.2 (.inr hx))
  show zy E tm' fn ⟨bN ts a.toList⟩ ⟨bN ts b.toList⟩ h = zy E tm fn a b h
  unfold zy
  simp only [h1, h2]
 | makeMap t r =>
  cases hm
  show yE E tm' t (fTO ts r) h = yE E tm t r h
  cases r with
  | none => rfl
  | some x =>
   have := hv x (by simp [Op.operands])
   show yE E tm' t (some (fT ts x)) h = _
   unfold yE
   simp only [this]
 | slice t x l u m =>
  cases hm
  have hx := hv x (by simp [Op.operands])
  have hl : ∀ d, bnd E tm' (fTO ts l) d = bnd E tm l d := fun d => yal fun y hy => hv y (by subst hy; simp [Op.operands])
  have hu : ∀ d, bnd E tm' (fTO ts u) d = bnd E tm u d := fun d => yal fun y hy => hv y (by subst hy; simp [Op.operands])
  refine wad hx hl hu (bag u) ?_
  cases m with
  | none => exact .inl ⟨rfl, rfl⟩
  | some y => exact .inr ⟨fT ts y, y, rfl, rfl, hv y (by simp [Op.operands])⟩
 | binOp op t x y u =>
  cases hm
  have hx := hv x (by simp [Op.operands])
  have hy := hv y (by simp [Op.operands])
  show zS E tm' op t (fT ts x) (fT ts y) h = zS E tm op t x y h
  unfold zS
  simp only [hx, hy, oaj]
 | call c =>
  obtain ⟨callee, args, ats⟩ := c
  cases callee with
  | builtin b =>
   cases hm
   have : evs E tm' (bN ts args.toList) = evs E tm args.toList := yP fun x hx => hv x (by simp only [Op.operands, Call.operands, Array.toList_append]; exact List.mem_append.2 (.inr hx))
   show eF E b ats.toList (evs E tm' (bN ts args.toList)) h = _
   rw [this]; rfl
  | value f => cases hm
  | invoke r n => cases hm
 | defer c =>
  obtain ⟨callee, args, ats⟩ := c
  cases callee with
  | builtin b => cases hm
  | value f =>
   cases hm
   have h1 : evs E tm' (bN ts args.toList) = evs E tm args.toList := yP fun x hx => hv x (by simp only [Op.operands, Call.operands, Array.toList_append]; exact List.mem_append.2 (.inr hx))
   have h2 := hv f (by simp [Op.operands, Call.operands])
   show oG E tm' ⟨.value (fT ts f), ⟨bN ts args.toList⟩, ats⟩ h = oG E tm ⟨.value f, args, ats⟩ h
   unfold oG
   simp only [h1, h2]
  | invoke r n => cases hm
 | store t a v =>
  cases hm
  have h1 := hv a (by simp [Op.operands])
  have h2 := hv v (by simp [Op.operands])
  show nG E tm' t _ _ h = nG E tm t _ _ h
  unfold nG
  rw [h1, h2]
 | mapUpdate t m k x =>
  cases hm
  have h1 := hv m (by simp [Op.operands])
  have h2 := hv k (by simp [Op.operands])
  have h3 := hv x (by simp [Op.operands])
  show lq E tm' t _ _ _ h = lq E tm t _ _ _ h
  unfold lq
  simp only [h1, h2, h3]
 | insert t m k x =>
  cases hm
  have h1 := hv m (by simp [Op.operands])
  have h2 := hv k (by simp [Op.operands])
  have h3 := hv x (by simp [Op.operands])
  show lq E tm' t _ _ _ h = lq E tm t _ _ _ h
  unfold lq
  simp only [h1, h2, h3]
 | mapEntry t m k =>
  cases hm
  have h1 := hv m (by simp [Op.operands])
  have h2 := hv k (by simp [Op.operands])
  show vD E tm' t _ _ h = vD E tm t _ _ h
  unfold vD
  simp only [h1, h2]
 | entryStore t m s x =>
  cases hm
  have h1 := hv m (by simp [Op.operands])
  have h2 := hv s (by simp [Op.operands])
  have h3 := hv x (by simp [Op.operands])
  show ou E tm' _ _ _ h = ou E tm _ _ _ h
  unfold ou
  simp only [h1, h2, h3]
 | makeSlice t l c =>
  cases hm
  have h1 := hv l (by simp [Op.operands])
  have h2 := hv c (by simp [Op.operands])
  show fC E tm' t _ _ h = fC E tm t _ _ h
  unfold fC
  simp only [h1, h2]
 | index t x i =>
  cases hm
  have h1 := hv x (by simp [Op.operands])
  have h2 := hv i (by simp [Op.operands])
  show aae E tm' t _ _ h = aae E tm t _ _ h
  unfold aae
  rw [h1, h2]
 | lookup t x i ok =>
  cases hm
  have h1 := hv x (by simp [Op.operands])
  have h2 := hv i (by simp [Op.operands])
  show mD E tm' t _ _ ok h = mD E tm t _ _ ok h
  unfold mD
  simp only [h1, h2]
 | nilCheck x =>
  cases hm
  have h1 := hv x (by simp [Op.operands])
  show dw E tm' _ h = dw E tm _ h
  unfold dw
  rw [h1]
 | unOp op t x =>
  cases hm
  have h1 := hv x (by simp [Op.operands])
  show aUn E tm' op _ h = aUn E tm op _ h
  unfold aUn
  rw [h1]
 | convert s d x =>
  cases hm
  have h1 := hv x (by simp [Op.operands])
  show iB E tm' s d _ h = iB E tm s d _ h
  unfold iB
  simp only [h1]
 | makeInterface t x =>
  cases hm
  have h1 := hv x (by simp [Op.operands])
  show bn E tm' t _ h = bn E tm t _ h
  unfold bn
  simp only [h1]
 | field s x f =>
  cases hm
  have h1 := hv x (by simp [Op.operands])
  show bae E tm' s _ f h = bae E tm s _ f h
  unfold bae
  rw [h1]
 | range t x =>
  cases hm
  have h1 := hv x (by simp [Op.operands])
  show xS E tm' t _ h = xS E tm t _ h
  unfold xS
  simp only [h1]
 | next x s =>
  cases hm
  have h1 := hv x (by simp [Op.operands])
  show kM E tm' _ s h = kM E tm _ s h
  unfold kM
  simp only [h1]
 | entry x =>
  cases hm
  have h1 := hv x (by simp [Op.operands])
  show dK E tm' _ h = dK E tm _ h
  unfold dK
  simp only [h1]
 | typeAssert x t u ok =>
  cases hm
  have h1 := hv x (by simp [Op.operands])
  show nu E tm' _ u ok h = nu E tm _ u ok h
  unfold nu
  simp only [h1]
 | panic x =>
  cases hm
  have h1 := hv x (by simp [Op.operands])
  show yS E tm' _ h = yS E tm _ h
  unfold yS
  simp only [h1]
 | _ => cases hm
end
theorem zai {l : List Operand} {t : Nat} (h : Operand.tmp t ∈ l) : t ∈ tmpsOf l := by
 induction l with
 | nil => cases h
 | cons x l ih =>
  rcases List.mem_cons.1 h with rfl | hm
  ·exact List.mem_cons_self ..
  ·skip
   cases x <;> first | exact List.mem_cons_of_mem _ (ih hm) | exact ih hm
theorem van {l : List Nat} {t : Nat} (h : t ∈ l) : t ∈ dedup l := by
 induction l with
 | nil => cases h
 | cons u l ih =>
  rw [dedup, bH]
  by_cases hu : u ∈ l
  ·rw [decide_eq_true hu, cond_true]
   rcases List.mem_cons.1 h with rfl | h
   ·exact ih hu
   ·exact ih h
  ·rw [decide_eq_false hu, cond_false]
   rcases List.mem_cons.1 h with rfl | h
   ·exact List.mem_cons_self ..
   ·exact List.mem_cons_of_mem _ (ih h)
theorem xar (t : Nat) (l : List Nat) (i : Nat) : zaf t l i = i + zaf t l 0 := by
 induction l generalizing i with
 | nil => rfl
 | cons u l ih =>
  rw [zaf, zaf]
  cases Nat.beq t u
  ·rw [cond_false, cond_false, ih, ih 1]; omega
  ·rfl
theorem raq (E : Env) (nt : Nat) (q : Rg) {ts : List Nat} {t : Nat} (h : t ∈ ts) : bg ((uau E nt ts).get q) (zaf t ts 0) = some (ev E (dm nt 0 q) (.tmp t)) := by
 induction ts with
 | nil => cases h
 | cons u ts ih =>
  show bg ((opd E nt (.tmp u)).get q :: (uau E nt ts).get q) _ = _
  rw [zaf, fq]
  by_cases hu : t = u
  ·subst hu; rw [decide_eq_true rfl, cond_true, eu, jr]
  ·rw [decide_eq_false hu, cond_false, xar, Nat.add_comm, yl]
   rcases List.mem_cons.1 h with rfl | h
   ·exact absurd rfl hu
   ·exact ih h
theorem qae (E : Env) (nt : Nat) (o : Op) (q : Rg) (h : H) : (z8 E nt o).run q h = aop E (dm nt 0 q) o h := by
 unfold z8
 simp only
 split
 ·rename_i o' g hm hg
  refine kat hm fun x hx => ?_
  cases x with
  | tmp t =>
   have := raq E nt q (van (zai hx))
   rw [hg] at this
   show (bg (g q) _).getD qg = _
   rw [this]; rfl
  | _ => rfl
 ·rfl
theorem oD (E : Env) (nt : Nat) (o : Op) : gK E nt (jJ E nt o).run o := by
 intro q h k hk
 have hk : daJ h.next ((z8 E nt o).run q h) k = true := hk
 rw [qae] at hk
 exact dan hk
theorem lap {k : IntKind} {m : Nat} (h : m < waw k) : inR k (.ofNat m) = true := by
 cases k <;> first | (simp only [waw] at h; omega) | (simp only [waw] at h; show Nat.blt m _ = true; rw [au, decide_eq_true h])
theorem jA {k : IntKind} {m : Nat} {c : V → B} {z : B} (h : eac k m c z = true) : (inR k (.ofNat m) = true ∧ c (.int k (.ofNat m)) = true) ∨ z = true := by
 rcases xq h with ⟨h1, h2⟩ | ⟨_, h2⟩
 ·refine .inl ⟨lap ?_, h2⟩
  rw [bu, decide_eq_true_eq] at h1
  exact h1
 ·exact .inr h2
theorem uap {f : IntKind → Nat → Nat → (V → B) → B → B} {k : IntKind} {a b : Int} {c : V → B} {z : B} (h : two f k a b c z = true) :
  (∃ x y, a = .ofNat x ∧ b = .ofNat y ∧ f k x y c z = true) ∨ z = true := by
 cases a with
 | negSucc a => exact .inr h
 | ofNat x => cases b with
  | negSucc b => exact .inr h
  | ofNat y => exact .inl ⟨x, y, rfl, rfl, h⟩
def qV (op : BinOp) (k : IntKind) (a b : Int) : Option V :=
 match zar op with
 | true => (mW op k a b).map (.int k)
 | false => tY op k a b
theorem nar (x y : Nat) : Nat.ble x y = !(Nat.blt y x) := by
 rw [bu, au]
 by_cases h : x ≤ y
 ·simp [h]
 ·simp [h, show y < x from by omega]
theorem uG {k : IntKind} {n : Int} (h : inR k n = true) : uA k n = n := by unfold uA; rw [h]; rfl
theorem bk_ok {op : BinOp} {f : BK} (hf : bkOf op = some f) {k : IntKind} {a b : Int} {c : V → B} {z : B} (h : f k a b c z = true) : (∃ v, qV op k a b = some v ∧ c v = true) ∨ z = true := by
 cases op <;> (first | (cases hf; done) | skip) <;> injection hf with hf <;> subst hf
 all_goals refine (uap h).elim (fun ⟨x, y, ha, hb, h⟩ => ?_) .inr
 all_goals subst ha hb
 ·rcases jA h with ⟨h1, h2⟩ | h
  ·exact .inl ⟨_, by show some (V.int k (uA k (.ofNat (Nat.add x y)))) = _; rw [uG h1], h2⟩
  ·exact .inr h
 ·rcases xq h with ⟨h0, h⟩ | ⟨_, h⟩
  ·rcases jA h with ⟨h1, h2⟩ | h
   ·rw [bu, decide_eq_true_eq] at h0
    refine .inl ⟨_, ?_, h2⟩
    show some (V.int k (uA k ((Int.ofNat x) - (Int.ofNat y)))) = _
    rw [show (Int.ofNat x) - (Int.ofNat y) = Int.ofNat (Nat.sub x y) from (Int.ofNat_sub h0).symm, uG h1]
   ·exact .inr h
  ·exact .inr h
 ·rcases jA h with ⟨h1, h2⟩ | h
  ·exact .inl ⟨_, by show some (V.int k (uA k (.ofNat (Nat.mul x y)))) = _; rw [uG h1], h2⟩
  ·exact .inr h
 ·rcases xq h with ⟨_, h⟩ | ⟨h0, h⟩
  ·exact .inr h
  ·cases y with
   | zero => cases h0
   | succ y =>
    rcases jA h with ⟨h1, h2⟩ | h
    ·exact .inl ⟨_, by show some (V.int k (uA k (.ofNat (Nat.div x (y + 1))))) = _; rw [uG h1], h2⟩
    ·exact .inr h
 ·rcases xq h with ⟨_, h⟩ | ⟨h0, h⟩
  ·exact .inr h
  ·cases y with
   | zero => cases h0
   | succ y => exact .inl ⟨_, rfl, h⟩
 ·rcases jA h with ⟨h1, h2⟩ | h
  ·exact .inl ⟨_, by show some (V.int k (uA k (.ofNat (Nat.land x y)))) = _; rw [uG h1], h2⟩
  ·exact .inr h
 ·rcases jA h with ⟨h1, h2⟩ | h
  ·exact .inl ⟨_, by show (bif inR k (.ofNat (Nat.lor x y)) then some (Int.ofNat (Nat.lor x y)) else none).map (V.int k) = _; rw [h1]; rfl, h2⟩
  ·exact .inr h
 ·rcases jA h with ⟨h1, h2⟩ | h
  ·exact .inl ⟨_, by show (bif inR k (.ofNat (Nat.xor x y)) then some (Int.ofNat (Nat.xor x y)) else none).map (V.int k) = _; rw [h1]; rfl, h2⟩
  ·exact .inr h
 ·rcases xq h with ⟨h0, h⟩ | ⟨_, h⟩
  ·rcases jA h with ⟨h1, h2⟩ | h
   ·refine .inl ⟨_, ?_, h2⟩
    show (bif Nat.blt y k.bits then some (uA k (.ofNat (Nat.mul x (Nat.pow 2 y)))) else none).map (V.int k) = _
    rw [show Nat.blt y k.bits = true from h0, cond_true, uG h1]; rfl
   ·exact .inr h
  ·exact .inr h
 ·rcases xq h with ⟨h0, h⟩ | ⟨_, h⟩
  ·refine .inl ⟨_, ?_, h⟩
   show (bif Nat.blt y k.bits then some (Int.ofNat (x / 2 ^ y)) else none).map (V.int k) = _
   rw [show Nat.blt y k.bits = true from h0]; rfl
  ·exact .inr h
 ·exact .inl ⟨_, rfl, h⟩
 ·exact .inl ⟨_, rfl, h⟩
 ·exact .inl ⟨_, rfl, h⟩
 ·exact .inl ⟨_, by show some (V.bool (!(Nat.blt y x))) = _; rw [← nar], h⟩
 ·exact .inl ⟨_, rfl, h⟩
 ·exact .inl ⟨_, by show some (V.bool (!(Nat.blt x y))) = _; rw [← nar], h⟩
end Go.Ev
end
noncomputable section
namespace Go.Ev
section
variable {E : Env} {nt : Nat}
theorem dE {f : Rg → H → KV → B} {o : Op} (hf : ∀ q h k, f q h k = true → ∃ v h', aop E (dm nt 0 q) o h = .val v h' ∧ Nat.ble h.next h'.next = true ∧ k v h' = true) : gK E nt f o :=
 fun q h k hk => let ⟨v, h', h1, h2, h3⟩ := hf q h k hk; ⟨v, h', .inl h1, h2, h3⟩
theorem faa (x : Operand) (q : Rg) (h : H) (k : KV) (hk : (moveC E nt x).run q h k = true) : k (ev E (dm nt 0 q) x) h = true := by
 have hk : k ((opd E nt x).get q) h = true := hk
 rw [jr] at hk; exact hk
theorem jar (x : Operand) : gK E nt (moveC E nt x).run (.move x) := dE fun q h k hk => ⟨_, h, rfl, ek _, faa x q h k hk⟩
theorem pak (x : Operand) : gK E nt (moveC E nt x).run (.assign x) := dE fun q h k hk => ⟨_, h, rfl, ek _, faa x q h k hk⟩
theorem waq (c a b : Operand) : gK E nt (qax E nt c a b).run (.pick c a b) := dE fun q h k hk => by
 have hk : l8 ((opd E nt c).get q) (fun x => k (@Bool.rec (fun _ => V) ((opd E nt b).get q) ((opd E nt a).get q) x) h) = true := hk
 rw [jr, jr, jr] at hk
 obtain ⟨x, h1, h2⟩ := oM hk
 refine ⟨_, h, ?_, ek _, h2⟩
 show iU E _ c a b h = _
 unfold iU
 rw [h1]
 cases x <;> rfl
theorem xao (t : Nat) : gK E nt (qak E nt t).run (.alloc t) := dE fun q h k hk => by
 unfold qak at hk
 show ∃ v h', fF E t h = _ ∧ _
 unfold fF
 split at hk
 ·rename_i i hi
  exact ⟨.ptr h.next 0, fresh h i.zero.cells t false, by rw [hi], qY _, kH hk⟩
 ·cases hk
theorem nao (v : V) : uas v = v.cells := by cases v <;> rfl
theorem vaw (t : Nat) (x : Operand) : gK E nt (eaK E nt t x).run (.box t x) := dE fun q h k hk => by
 unfold eaK at hk
 show ∃ v h', eae E _ t x h = _ ∧ _
 unfold eae
 split at hk
 ·rename_i i f hi hf
  have hv := jr E nt q x
  rw [hf] at hv
  have hv : f q = ev E (dm nt 0 q) x := hv
  have := kH hk
  rw [hv, nao] at this
  exact ⟨.ptr h.next 0, fresh h (ev E (dm nt 0 q) x).cells t false, by rw [hi], qY _, this⟩
 ·cases hk
theorem gX (t : Nat) (a : Operand) (q : Rg) (h : H) (k : KV) (hk : (haa E nt t a).run q h k = true) : ∃ v, loadT E t (ev E (dm nt 0 q) a) h = some v ∧ k v h = true := by
 unfold haa at hk
 have hv := jr E nt q a
 split at hk
 ·rename_i i g hi hg
  rw [hg] at hv
  have hv : g q = ev E (dm nt 0 q) a := hv
  cases hd : eG i.desc with
  | true =>
   rw [hd] at hk
   obtain ⟨b, o, h1, h2⟩ := vG hk
   obtain ⟨xs, e, opn, ro, flo, fhi, mk, h3, h4⟩ := bU h2
   obtain ⟨l, h5, h6⟩ := lan h4
   refine ⟨_, ?_, h6⟩
   unfold loadT rd
   rw [← hv, h1, hi]
   simp only [hd, h3, h5, cond_true, Option.map_some]
  | false =>
   rw [hd] at hk
   obtain ⟨b, o, h1, h2⟩ := vG hk
   obtain ⟨xs, e, opn, ro, flo, fhi, mk, h3, h4⟩ := bU h2
   obtain ⟨v, h5, h6⟩ := kX h4
   refine ⟨_, ?_, h6⟩
   unfold loadT rd1
   rw [← hv, h1, hi]
   simp only [hd, h3, h5, cond_false]
 ·cases hk
theorem mar (t : Nat) (a : Operand) : gK E nt (haa E nt t a).run (.load t a) := dE fun q h k hk => by
 obtain ⟨v, h1, h2⟩ := gX t a q h k hk
 exact ⟨v, h, by show nah E _ t a h = _; unfold nah; rw [h1]; rfl, ek _, h2⟩
theorem wam (t : Nat) (a x : Operand) : gK E nt (eai E nt t a x).run (.store t a x) := by
 unfold eai
 have hs := oD E nt (.store t a x)
 split
 ·rename_i i g f s hi hg hf hsl
  rw [hsl] at hs
  cases hd : eG i.desc with
  | true => rw [cond_true]; exact hs
  | false =>
   rw [cond_false]
   cases h1 : Nat.beq i.size 1 with
   | false => rw [cond_false]; exact hs
   | true =>
    rw [cond_true]
    have h1 := Nat.eq_of_beq_eq_true h1
    intro q h k hk
    have hga := jr E nt q a
    have hfx := jr E nt q x
    rw [hg] at hga; rw [hf] at hfx
    have hga : g q = ev E (dm nt 0 q) a := hga
    have hfx : f q = ev E (dm nt 0 q) x := hfx
    obtain ⟨b, o, h2, h3⟩ := vG hk
    obtain ⟨ob, h4, h5⟩ := zX h3
    cases ob with
    | cells xs e opn ro flo fhi mk =>
     rcases xq h5 with ⟨_, h6⟩ | ⟨hro, h6⟩
     ·cases h6
     ·obtain ⟨hc, h7⟩ := ni h6
      obtain ⟨ho, h8⟩ := ni h7
      obtain ⟨hp, h9⟩ := daj h8
      have h10 := jH h9
      refine ⟨qg, _, .inr ⟨?_, rfl⟩, ?_, h10⟩
      ·show nG E _ t a x h = _
       unfold nG storeT
       rw [← hga, ← hfx, h2, hi]
       have hcells : (f q).cells = [f q] := by
        generalize f q = v at ho
        cases v <;> first | rfl | cases ho
       simp only [hcells, tK, dP, h1]
       rw [show Nat.beq (0 + 1) 1 = true from rfl, cond_true]
       unfold wr
       rw [h4]
       subst hro
       simp only [cond_false, tK, dP, Nat.zero_add, hc, cond_true]
       rw [show lG [f q] = true from by unfold lG; rw [ho, cond_true]; rfl, cond_true, hp]
       rfl
      ·exact ek _
    | _ => cases h5
 ·exact hs
theorem o5 (s : Nat) (x : Operand) (f : Nat) : gK E nt (jN E nt s x f).run (.fieldAddr s x f) := dE fun q h k hk => by
 unfold jN at hk
 show ∃ v h', dF E _ s x f h = _ ∧ _
 unfold dF rE
 have hv := jr E nt q x
 split at hk
 ·rename_i fs g hd hg
  rw [hg] at hv
  have hv : g q = ev E (dm nt 0 q) x := hv
  split at hk
  ·rename_i fd hfd
   split at hk
   ·cases hk
   ·rename_i n d hn
    obtain ⟨b, o, h1, h2⟩ := vG hk
    rw [← hv, h1, hd]
    simp only [hfd, hn]
    exact ⟨_, _, rfl, ek _, h2⟩
  ·cases hk
 ·cases hk
theorem oaa {i : Int} {len : Nat} {k : Nat → B} (h : xaJ i len k = true) : ∃ j, idx i len = some j ∧ k j = true := by
 cases i with
 | negSucc n => cases h
 | ofNat n =>
  obtain ⟨h1, h2⟩ := ni h
  exact ⟨n, by show (bif Nat.blt n len then some n else none) = _; rw [show Nat.blt n len = true from h1]; rfl, h2⟩
theorem yZ (t : Nat) (x i : Operand) : gK E nt (gN E nt t x i).run (.indexAddr t x i) := dE fun q h k hk => by
 unfold gN at hk
 show ∃ v h', bF E _ t x i h = _ ∧ _
 unfold bF nE
 have hv := jr E nt q x
 have hw := jr E nt q i
 split at hk
 ·rename_i len e f g hd hf hg
  rw [hf] at hv; rw [hg] at hw
  have hv : f q = ev E (dm nt 0 q) x := hv
  have hw : g q = ev E (dm nt 0 q) i := hw
  split at hk
  ·rename_i hh
   obtain ⟨b, o, h1, h2⟩ := vG hk
   obtain ⟨kd, n, h3, h4⟩ := y7 h2
   obtain ⟨j, h5, h6⟩ := oaa h4
   rw [← hv, ← hw, h1, h3, hd]
   simp only [h5, hh, cond_true]
   exact ⟨_, _, rfl, ek _, h6⟩
  ·cases hk
 ·rename_i e f g hd hf hg
  rw [hf] at hv; rw [hg] at hw
  have hv : f q = ev E (dm nt 0 q) x := hv
  have hw : g q = ev E (dm nt 0 q) i := hw
  split at hk
  ·rename_i hh
   cases hx : f q with
   | sl b o len cap =>
    simp only [hx] at hk
    obtain ⟨kd, n, h3, h4⟩ := y7 hk
    obtain ⟨j, h5, h6⟩ := oaa h4
    rw [← hv, ← hw, hx, h3, hd]
    simp only [h5, hh, cond_true]
    exact ⟨_, _, rfl, ek _, h6⟩
   | _ => simp only [hx] at hk; cases hk
  ·cases hk
 ·cases hk
theorem oag (t : Operand) (i : Nat) : gK E nt (pag E nt t i).run (.extract t i) := dE fun q h k hk => by
 have hk : kaI ((opd E nt t).get q) (fun l => kal l i (fun v => k v h)) = true := hk
 rw [jr] at hk
 obtain ⟨l, h1, h2⟩ := ram hk
 obtain ⟨v, h3, h4⟩ := kX h2
 refine ⟨v, h, ?_, ek _, h4⟩
 show kz E _ t i h = _
 unfold kz
 rw [h1]
 simp only [h3]
 rfl
theorem paI (op : UnOp) (t : Nat) (x : Operand) : gK E nt (unC E nt op t x).run (.unOp op t x) := by
 unfold unC
 have hs := oD E nt (.unOp op t x)
 split
 ·rename_i a ha
  refine dE fun q h k hk => ?_
  have hv := jr E nt q x
  rw [ha] at hv
  have hv : a q = ev E (dm nt 0 q) x := hv
  obtain ⟨b, h1, h2⟩ := oM hk
  refine ⟨_, h, ?_, ek _, h2⟩
  show aUn E _ .not x h = _
  unfold aUn
  rw [← hv, h1]; rfl
 ·exact hs
theorem dac (x : Operand) : gK E nt (kR E nt x).run (.nilCheck x) := by
 have hs := oD E nt (.nilCheck x)
 intro q h k hk
 have hs := hs q h k
 rcases hsl : jJ E nt (.nilCheck x) with ⟨s⟩
 rw [hsl] at hs
 unfold kR at hk
 rw [hsl] at hk
 have hv := jr E nt q x
 rcases hf : opd E nt x with ⟨f⟩
 rw [hf] at hv hk
 have hv : f q = ev E (dm nt 0 q) x := hv
 simp only at hk
 cases hx : f q <;> simp only [hx] at hk <;> first
  | exact hs hk
  | (refine ⟨_, h, .inl ?_, ek _, hk⟩; show dw E _ x h = _; unfold dw; rw [← hv, hx])
theorem kav (t : Nat) (x : Operand) : gK E nt (uaJ E nt t x (.call { callee := .builtin .len, args := ⟨[x]⟩, argTypes := ⟨[t]⟩ })).run (.call { callee := .builtin .len, args := ⟨[x]⟩, argTypes := ⟨[t]⟩ }) := by
 unfold uaJ
 split
 ·rename_i e f hd hf
  refine dE fun q h k hk => ?_
  have hv := jr E nt q x
  rw [hf] at hv
  have hv : f q = ev E (dm nt 0 q) x := hv
  show ∃ v h', ofO (fat E t (ev E (dm nt 0 q) x) h) h 46 = _ ∧ _
  unfold fat
  rw [← hv, hd]
  cases hx : f q <;> simp only [hx] at hk <;> first
   | exact ⟨_, _, rfl, ek _, hk⟩
   | cases hk
 ·exact oD E nt _
theorem iag (E : Env) (t : Nat) (x y : Operand) (k k' : IntKind) (a b : Int) : nC E t x y (.int k a) (.int k' b) = true := rfl
theorem yaw {op : BinOp} (h : zar op = true) (E : Env) (t : Nat) (k k' : IntKind) (a b : Int) : mad E op t (.int k a) (.int k' b) = qV op k a b := by
 cases op <;> first | rfl | cases h
theorem bat {op : BinOp} (h : zar op = false) (E : Env) (t : Nat) (k k' : IntKind) (a b : Int) (hk : keq k k' = true) : mad E op t (.int k a) (.int k' b) = qV op k a b := by
 cases op <;> first | (cases h; done) | (show (bif keq k k' then tY _ k a b else none) = _; rw [hk, cond_true]; rfl)
theorem aax (op : BinOp) (t : Nat) (x y : Operand) (u : Nat) : gK E nt (gaK E nt op t x y u).run (.binOp op t x y u) := by
 unfold gaK
 have hs := oD E nt (.binOp op t x y u)
 split
 ·rename_i f a b s hbk ha hb hsl
  rw [hsl] at hs
  have fin : ∀ (q : Rg) (h : H) (k : KV) (kd kd' : IntKind) (m n : Int), a q = .int kd m → b q = .int kd' n → mad E op t (.int kd m) (.int kd' n) = qV op kd m n →
    f kd m n (fun v => k v h) (s q h k) = true → ∃ v h', kax (aop E (dm nt 0 q) (.binOp op t x y u) h) v h' ∧ Nat.ble h.next h'.next = true ∧ k v h' = true := by
   intro q h k kd kd' m n ha1 hb1 hT hf
   rcases bk_ok hbk hf with ⟨v, h1, h2⟩ | h1
   ·have hva := jr E nt q x
    have hvb := jr E nt q y
    rw [ha] at hva; rw [hb] at hvb
    have hva : a q = ev E (dm nt 0 q) x := hva
    have hvb : b q = ev E (dm nt 0 q) y := hvb
    refine ⟨v, h, .inl ?_, ek _, h2⟩
    show zS E _ op t x y h = _
    unfold zS
    rw [← hva, ← hvb, ha1, hb1, hT, h1]
    simp only [iag, cond_true]
    cases wR op <;> rfl
   ·exact hs q h k h1
  cases hsh : zar op with
  | true =>
   rw [cond_true]
   intro q h k hk
   rcases xB hk with ⟨kd, m, h1, h2⟩ | h1
   ·rcases xB h2 with ⟨kd', n, h3, h4⟩ | h3
    ·exact fin q h k kd kd' m n h1 h3 (yaw hsh ..) h4
    ·exact hs q h k h3
   ·exact hs q h k h1
  | false =>
   rw [cond_false]
   intro q h k hk
   rcases xB hk with ⟨kd, m, h1, h2⟩ | h1
   ·rcases xB h2 with ⟨kd', n, h3, h4⟩ | h3
    ·obtain ⟨h5, h6⟩ := ni h4
     exact fin q h k kd kd' m n h1 h3 (bat hsh _ _ _ _ _ _ h5) h6
    ·exact hs q h k h3
   ·exact hs q h k h1
 ·exact hs
theorem aac (o : Op) : gK E nt (opC E nt o).run o := by
 unfold opC
 split
 ·exact jar _
 ·exact pak _
 ·exact waq _ _ _
 ·exact xao _
 ·exact vaw _ _
 ·exact mar _ _
 ·exact wam _ _ _
 ·exact dac _
 ·exact aax _ _ _ _ _
 ·exact paI _ _ _
 ·exact o5 _ _ _
 ·exact yZ _ _ _
 ·exact oag _ _
 ·exact kav _ _
 ·exact oD _ _ _
end
end Go.Ev
end
noncomputable section
namespace Go.Ev
def om (E : Env) (c : Fr) : F := ⟨c.fn, dm (zl E c.fn) 0 c.q, c.todo.map Tk.it, c.defers, c.mode, c.kind, c.rnd⟩
def pq (E : Env) (q : Rg) (todo : List Tk) (x : X) : F := ⟨x.fn, dm (zl E x.fn) 0 q, todo.map Tk.it, x.defers, .run, x.kind, x.rnd⟩
def eax (fn : Nat) (l : List Tk) : Prop := ∀ t ∈ l, t.fn = fn
structure fau (E : Env) (c : Fr) : Prop where
 td : c.mode = .run → eax c.fn c.todo
 nt : zl E c.fn ≤ 256
def jK (E : Env) (cs : List Fr) : Prop := ∀ c ∈ cs, fau E c
structure XOk (E : Env) (todo : List Tk) (x : X) : Prop where
 td : eax x.fn todo
 nt : zl E x.fn ≤ 256
 cs : jK E x.cs
theorem XOk.cons {E : Env} {todo : List Tk} {x : X} (h : XOk E todo x) (it : It) : XOk E (⟨x.fn, it⟩ :: todo) x :=
 ⟨fun t ht => by rcases List.mem_cons.1 ht with rfl | ht; rfl; exact h.td t ht, h.nt, h.cs⟩
theorem jK.cons {E : Env} {c : Fr} {cs : List Fr} (h : fau E c) (k : jK E cs) : jK E (c :: cs) :=
 fun t ht => by rcases List.mem_cons.1 ht with rfl | ht; exact h; exact k t ht
theorem jK.head {E : Env} {c : Fr} {cs : List Fr} (h : jK E (c :: cs)) : fau E c := h c (List.mem_cons_self ..)
theorem jK.tail {E : Env} {c : Fr} {cs : List Fr} (h : jK E (c :: cs)) : jK E cs := fun d hd => h d (List.mem_cons_of_mem _ hd)
def yt (C : Cx) (good : Nat → V → H → Bool) : Out → Prop
 | .next s => Ends C good s
 | .alts l => ∀ s ∈ l, Ends C good s
 | .done f v h => good f v h = true
 | .fail _ => False
theorem Ends.qi {C : Cx} (K : kF C) {good : Nat → V → H → Bool} {s : S} (h : yt C good (uL C.E C.O s)) : Ends C good s := by
 intro m hm
 have := naq K hm
 cases hs : uL C.E C.O s with
 | next s' =>
  rw [hs] at h this
  obtain ⟨m', h1, h2⟩ := this
  obtain ⟨f, v, h', g1, g2⟩ := h m' h2
  exact ⟨f, v, h', g1, g2.of_steps h1⟩
 | alts l =>
  rw [hs] at h this
  obtain ⟨s', hs', m', h1, h2⟩ := this
  obtain ⟨f, v, h', g1, g2⟩ := h s' hs' m' h2
  exact ⟨f, v, h', g1, g2.of_steps h1⟩
 | done f v h' =>
  rw [hs] at h this
  exact ⟨f, v, h', h, this⟩
 | fail n => rw [hs] at h; exact h.elim
structure wB (K : Kit) (C : Cx) (good : Nat → V → H → Bool) : Prop where
 cx : kF C
 E : K.E = C.E
 O : K.O = C.O
 good : K.good = good
 on : ∀ f, K.on f = false → ∀ args h, K.O f args h = none
section
variable {K : Kit} {C : Cx} {good : Nat → V → H → Bool}
def rQ (K : Kit) (C : Cx) (good : Nat → V → H → Bool) (go : Go) : Prop :=
 ∀ q todo x h, XOk K.E todo x → go q todo x h = true → Ends C good ⟨pq K.E q todo x, x.cs.map (om K.E), h⟩
def uah (K : Kit) (C : Cx) (good : Nat → V → H → Bool) (fn : Nat) (it : It) (f : vah) : Prop :=
 ∀ q k x h go, rQ K C good go → x.fn = fn → XOk K.E k x → f q k x h go = true → Ends C good ⟨pq K.E q (⟨fn, it⟩ :: k) x, x.cs.map (om K.E), h⟩
def iZ (K : Kit) (C : Cx) (good : Nat → V → H → Bool) (fn : Nat) (it : It) (f : aT) : Prop :=
 ∀ v q k x h go, rQ K C good go → x.fn = fn → XOk K.E k x → f v q k x h go = true → ∃ fr, finish (pq K.E q (⟨fn, it⟩ :: k) x) v = some fr ∧ Ends C good ⟨fr, x.cs.map (om K.E), h⟩
theorem pai {E : Env} {fn : Nat} {d : Option Nat} {q : Rg} {v : V} {k : Rg → B} (hn : zl E fn ≤ 256) (h : (oJ fn E d).set q v k = true) :
  ∃ q', k q' = true ∧ dm (zl E fn) 0 q' = zo (dm (zl E fn) 0 q) d v := by
 cases d with
 | none => exact ⟨q, h, rfl⟩
 | some d =>
  have h : ((match Nat.blt d (zl E fn) with | true => jai d | false => ⟨fun _ _ _ => false⟩ : St)).set q v k = true := h
  rw [au] at h
  by_cases hd : d < zl E fn
  ·rw [decide_eq_true hd] at h
   obtain ⟨q', h1, h2⟩ := qaq q v d _ hd hn
   have h : (jai d).set q v k = true := h
   rw [h1] at h
   exact ⟨q', h, h2⟩
  ·rw [decide_eq_false hd] at h
   cases h
theorem pan {l : List V} : ∀ {i : Nat} {q : Rg} {k : Rg → B}, i + l.length ≤ 256 → car l i q k = true →
  ∃ q', k q' = true ∧ ∀ t, t < 256 → zD q' t = if i ≤ t ∧ t < i + l.length then (bg l (t - i)).getD qg else zD q t := by
 induction l with
 | nil => intro i q k _ h; exact ⟨q, h, fun t _ => by rw [if_neg (by simp only [List.length_nil]; omega)]⟩
 | cons v l ih =>
  intro i q k hi h
  rw [List.length_cons] at hi
  obtain ⟨q1, h1, h2⟩ := wae q v i (by omega)
  have h : (jai i).set q v (fun q' => car l (i + 1) q' k) = true := h
  rw [h1] at h
  obtain ⟨q', h3, h4⟩ := ih (by omega) h
  refine ⟨q', h3, fun t ht => ?_⟩
  rw [h4 t ht, List.length_cons]
  by_cases e : t = i
  ·subst e
   rw [if_neg (by omega), if_pos (by omega), h2 t ht, if_pos rfl, Nat.sub_self]; rfl
  ·by_cases e2 : i + 1 ≤ t ∧ t < i + 1 + l.length
   ·rw [if_pos e2, if_pos (by omega), show t - i = (t - (i + 1)) + 1 from by omega, yl]
   ·rw [if_neg e2, if_neg (by omega), h2 t ht, if_neg e]
theorem rau (t : Nat) (ht : t < 256) : zD rg0 t = qg := by
 rw [yD]
 rcases paf (show t / 16 < 16 by omega) with e | e | e | e | e | e | e | e | e | e | e | e | e | e | e | e <;> rw [e] <;>
 rcases paf (show t % 16 < 16 by omega) with e' | e' | e' | e' | e' | e' | e' | e' | e' | e' | e' | e' | e' | e' | e' | e' <;> rw [e'] <;> rfl
theorem kaf {l : List V} {k : Rg → B} {n : Nat} (hl : l.length ≤ n) (hn : n ≤ 256) (h : car l 0 rg0 k = true) :
  ∃ q', k q' = true ∧ dm n 0 q' = gy l (rJ (n - av l 0) [qg] []) := by
 obtain ⟨q', h1, h2⟩ := pan (by omega) h
 refine ⟨q', h1, jX ?_ fun t ht => ?_⟩
 ·rw [lu, pz, kV, ll]
  simp
  omega
 ·rw [lu] at ht
  rw [vC, if_pos ht, Nat.zero_add, h2 t (by omega)]
  rw [pz, kV, ll]
  simp only [zg]
  by_cases e : t < l.length
  ·rw [if_pos (by omega), List.getElem?_append_left e, Nat.sub_zero]
   simp [e]
  ·rw [if_neg (by omega), rau t (by omega), List.getElem?_append_right (by omega), List.append_nil,
    show (List.replicate (n - (l.length + 0)) [qg]).flatten = List.replicate (n - (l.length + 0)) qg from by simp, List.getElem?_replicate, if_pos (by omega)]
theorem eaj {l : List V} : ∀ {n : Nat}, uax l n = true → l.length ≤ n := by
 induction l with
 | nil => intro n _; simp
 | cons v l ih =>
  intro n h
  cases n with
  | zero => cases h
  | succ n => have := ih (n := n) h; simp; omega
theorem lav (l : List V) : taJ l = l.length := by
 induction l with
 | nil => rfl
 | cons v l ih => show taJ l + 1 = _; rw [ih]; rfl
theorem zK {E : Env} {f : Nat} (h : (vag E f).ok = true) : ∃ fn b, E.fn.get f = some fn ∧ fn.body = some b ∧ fn.ntmps ≤ 256 ∧ vag E f = ⟨[⟨f, .code b⟩], true, fn.ntmps⟩ ∧ zl E f = fn.ntmps := by
 unfold vag at h ⊢
 split at h
 ·rename_i fn hfn
  split at h
  ·rename_i b hb hn
   rw [bu, decide_eq_true_eq] at hn
   exact ⟨fn, b, hfn, hb, hn, rfl, by unfold zl; rw [hfn]⟩
  ·cases h
 ·cases h
theorem mH {f : Nat} {args : List V} {kind : CallKind} {cs : List Fr} {h : H} {go : Go} (hgo : rQ K C good go) (hcs : jK K.E cs) (hk : ig K.E f args kind cs h go = true) :
  ∃ fr, eB K.E f args kind = some fr ∧ (∃ fn, K.E.fn.get f = some fn) ∧ Ends C good ⟨fr, cs.map (om K.E), h⟩ := by
 obtain ⟨h1, h2⟩ := ni hk
 obtain ⟨h3, h4⟩ := ni h2
 obtain ⟨fn, b, e1, e2, e3, e4, e5⟩ := zK h1
 rw [e4] at h3 h4
 obtain ⟨q, h5, h6⟩ := kaf (eaj h3) e3 h4
 refine ⟨_, by unfold eB; rw [e1]; simp only [e2]; rfl, ⟨fn, e1⟩, ?_⟩
 have := hgo q _ ⟨f, [], kind, none, cs⟩ h ⟨fun t ht => by rcases List.mem_singleton.1 ht with rfl; rfl, by rw [e5]; exact e3, hcs⟩ h5
 unfold pq at this
 rw [e5, h6] at this
 exact this
theorem tau (E : Env) (hE : K.E = E) (t : Tk) : iZ K C good t.fn t.it (caJ E t).res := by
 subst hE
 intro v q k x h go hgo hfn hx hk
 unfold caJ at hk
 split at hk
 ·rename_i all o rest hit
  obtain ⟨q', h1, h2⟩ := pai (by rw [← hfn]; exact hx.nt) hk
  have := hgo q' _ x h (hfn ▸ hx.cons (.reg all rest)) h1
  refine ⟨_, by unfold finish pq; rw [hit]; rfl, ?_⟩
  unfold pq at this
  rw [hfn, h2] at this
  rw [hfn]
  exact this
 ·rename_i all ms pend i c plan hit
  obtain ⟨q', h1, h2⟩ := pai (by rw [← hfn]; exact hx.nt) hk
  have := hgo q' _ x h (hfn ▸ hx.cons (.dreg all ms _ plan)) h1
  refine ⟨_, by unfold finish pq; rw [hit]; rfl, ?_⟩
  unfold pq at this
  rw [hfn, h2] at this
  rw [hfn]
  exact this
 ·rename_i l hit
  have := hgo q _ x h (hfn ▸ hx.cons (.endRange l)) hk
  exact ⟨_, by unfold finish pq; rw [hit]; rfl, this⟩
 ·cases hk
theorem yQ {v : V} {cs : List Fr} {h : H} {go : Go} (hgo : rQ K C good go) (hcs : jK K.E cs) (hk : aV K.E v cs h go = true) :
  ∃ c rest fr, cs = c :: rest ∧ c.mode = .run ∧ finish (om K.E c) v = some fr ∧ Ends C good ⟨fr, rest.map (om K.E), h⟩ := by
 cases cs with
 | nil => cases hk
 | cons c rest =>
  obtain ⟨fn, q, todo, defers, mode, kind, rnd⟩ := c
  cases mode with
  | run =>
   cases todo with
   | nil => cases hk
   | cons t k =>
    have hf := hcs.head
    have htd := hf.td rfl
    have ht : t.fn = fn := htd t (List.mem_cons_self ..)
    obtain ⟨fr, h1, h2⟩ := tau (C := C) (good := good) K.E rfl t v q k ⟨fn, defers, kind, rnd, rest⟩ h go hgo ht.symm ⟨fun u hu => htd u (List.mem_cons_of_mem _ hu), hf.nt, hcs.tail⟩ hk
    exact ⟨_, rest, fr, rfl, rfl, h1, h2⟩
  | _ => cases hk
end
end Go.Ev
end
