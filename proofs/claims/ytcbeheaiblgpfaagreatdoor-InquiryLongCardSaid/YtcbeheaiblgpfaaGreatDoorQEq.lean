/- The law InquiryLong: part Eq. -/
import Derived.Test.YtcbeheaiblgpfaaGreatDoorQEl
import Derived.Test.YtcbeheaiblgpfaaGreatDoorQEn
set_option linter.unusedVariables false
set_option linter.unusedSimpArgs false
noncomputable section
namespace Go.Ev
open Go.Proofs
set_option maxRecDepth 100000
structure mam where
  ty : Nat
  pos : String
  after : Array Edge
def mo (m : mam) (d : Option Nat) (op : Op) : Oper := ⟨d, op, m.ty, m.pos, m.after, none⟩
structure PqC (cb : Code) (r4 r5 r6 r7 : Array Oper) (i4 i5 i6 i7 : Nat) : Prop where
  eq : cb = .seq (.region i4 r4 false) (.seq (.cond (.tmp 27) .skip (.exit 0)) (.block 1 (.seq (.region i5 r5 false) (.seq (.region i6 r6 true) (.cond (.tmp 36) (.region i7 r7 false) .skip)))))
  q4 : ∃ a b, r4.toList = [mo a (some 26) (.next (.tmp 25) false), mo b (some 27) (.extract (.tmp 26) 0)]
  q5 : ∃ a b c d e f, r5.toList = [mo a (some 28) (.entry (.tmp 25)), mo b (some 29) (.extract (.tmp 28) 0), mo c (some 30) (.extract (.tmp 28) 1), mo d (some 4) (.alloc 268), mo e (some 3) (.assign (.tmp 29)), mo f none (.store 268 (.tmp 4) (.tmp 30))]
  q7 : ∃ a b c, r7.toList = [mo a (some 37) (.move (.tmp 3)), mo b (some 38) (.fieldAddr 162 (.tmp 1) 0), mo c none (.store 5 (.tmp 38) (.tmp 37))]
  q6 : ∃ a b c d e f, r6.toList = [mo a (some 31) (.fieldAddr 268 (.tmp 4) 0), mo b (some 32) (.load 9 (.tmp 31)), mo c (some 33) (.move (.tmp 2)), mo d (some 34) (.indexAddr 77 (.tmp 33) (.const (.int .i64 2))), mo e (some 35) (.load 9 (.tmp 34)), mo f (some 36) (.binOp .eql 9 (.tmp 32) (.tmp 35) 9)]
  plan : pJ E0 r6.toList = some [(0, 0), (1, 0), (2, 0), (3, 0), (4, 0), (5, 0)]
theorem zN (b o : Nat) : veq (.ptr b o) (.ptr b o) = true := by unfold veq; rw [show Nat.beq b b = true from Nat.beq_refl b, show Nat.beq o o = true from Nat.beq_refl o]; rfl
theorem yN (s : List Nat) : veq (.str s) (.str s) = true := by unfold veq; rw [dO, decide_eq_true_eq]
theorem qZ (b : Bool) : veq (.bool b) (.bool b) = true := by cases b <;> rfl
theorem kae (b o n : Nat) (c : Option Nat) : veq (.sl b o n c) (.sl b o n c) = true := by
  cases c <;> unfold veq <;> simp only [show ∀ n : Nat, Nat.beq n n = true from Nat.beq_refl] <;> rfl
theorem uD {E : Env} {ops : List Oper} {tm : List V} {h : H} {i : Nat} {m : mam} {d : Nat} {op : Op} {v : V} {h' : H} (ho : bg ops i = some (mo m (some d) op)) (hf : gp op = false) (hv : aop E tm op h = .val v h')
    (hd : bg tm d = some v) (hr : veq v v = true) : qC E ops tm h i = true := by
  unfold qC
  rw [ho]
  simp only
  rw [fo (o := mo m (some d) op) rfl]
  simp only [mo]
  rw [hv]
  simp only
  rw [hd]
  simp only
  rw [hf]
  exact hr
theorem dC {E : Env} {ops : List Oper} {tm : List V} {h : H} {i : Nat} {l : List Nat} (h1 : qC E ops tm h i = true) (h2 : ku E ops tm h l = true) : ku E ops tm h (i :: l) = true := by rw [ku, h1]; exact h2
def jan : Nat → V
  | 28 => .tup [.bad, .agg [.bad, .bad, .bad, .bad]]
  | 30 => .agg [.bad, .bad, .bad, .bad]
  | _ => .bad
def wT (i : Nat) : Bool := Nat.beq i 3 || Nat.beq i 4 || (Nat.ble 28 i && Nat.ble i 36)
theorem pF {i : Nat} (h : wT i = true) : i = 3 ∨ i = 4 ∨ i = 28 ∨ i = 29 ∨ i = 30 ∨ i = 31 ∨ i = 32 ∨ i = 33 ∨ i = 34 ∨ i = 35 ∨ i = 36 := by
  unfold wT at h
  simp only [Bool.or_eq_true, Bool.and_eq_true, bu, decide_eq_true_eq] at h
  rcases h with (h | h) | ⟨h1, h2⟩
  · have := Nat.eq_of_beq_eq_true h; omega
  · have := Nat.eq_of_beq_eq_true h; omega
  · omega
def bB (i : Nat) : Bool := Nat.beq i 3 || Nat.beq i 4 || (Nat.ble 26 i && Nat.ble i 38)
structure PqS (qb it m wb wo wn c : Nat) (wc : Option Nat) (es : List (V × V × Nat)) (ws : List V) (w2 : List Nat) (qflo qfhi : Nat) : Prop where
  old : lI c es = true
  word : bg ws (wo + 2) = some (.str w2)
  two : 2 < wn
  im : it ≠ m
  iw : it ≠ wb
  iq : it ≠ qb
  qm : qb ≠ m
  qw : qb ≠ wb
  clear : iI qflo qfhi 0 1 = true
  find : ∀ e ∈ es, uC e.2.2 es = some (e.1, e.2.1)
  shape : ∀ e ∈ es, ∃ i wd a b d, e.1 = .int .u8 i ∧ e.2.1 = .agg [.str wd, a, b, d] ∧ aD a = true ∧ aD b = true ∧ aD d = true
structure PqI (qb it m wb wo wn c : Nat) (wc : Option Nat) (es : List (V × V × Nat)) (ws : List V) (we : Nat) (wopn wro wmk mro : Bool) (wflo wfhi : Nat) (qe : Nat) (qopn qmk : Bool) (qflo qfhi : Nat) (tm : List V) (h : H) (seen : List Nat) (q0 : V) (qs : List V) : Prop where
  len : tm.length = 54
  t1 : bg tm 1 = some (.ptr qb 0)
  t2 : bg tm 2 = some (.sl wb wo wn wc)
  t25 : bg tm 25 = some (.ptr it 0)
  iter : h.get it = some (.mapIter (some m) c seen c)
  map : h.get m = some (.map es c mro)
  ws : h.get wb = some (.cells ws we wopn wro wflo wfhi wmk)
  q : h.get qb = some (.cells (q0 :: qs) qe qopn false qflo qfhi qmk)
  ltm : m < h.next
  lti : it < h.next
  ltw : wb < h.next
  ltq : qb < h.next
section
variable {C : Cx} {good : Nat → V → H → Bool} {qb it m wb wo wn c : Nat} {wc : Option Nat} {es : List (V × V × Nat)} {ws : List V} {w2 : List Nat} {we : Nat} {wopn wro wmk mro : Bool} {wflo wfhi : Nat} {qe : Nat} {qopn qmk : Bool} {qflo qfhi : Nat}
variable {cb : Code} {r4 r5 r6 r7 : Array Oper} {i4 i5 i6 i7 : Nat}
variable {k : List It} {ds : List Dd} {kd : CallKind} {rn : Option Nat} {cs : List F}
theorem taq (K : kF C) (hCE : C.E = E0) (B : PqC cb r4 r5 r6 r7 i4 i5 i6 i7) (Sx : PqS qb it m wb wo wn c wc es ws w2 qflo qfhi) {tm : List V} {h : H} {seen : List Nat} {q0 : V} {qs : List V}
    (I : PqI qb it m wb wo wn c wc es ws we wopn wro wmk mro wflo wfhi qe qopn qmk qflo qfhi tm h seen q0 qs) {e : V × V × Nat} (he : e ∈ es) {i : Int} {wd : List Nat} {x1 x2 x3 : V} (hk : e.1 = .int .u8 i) (hwd : e.2.1 = .agg [.str wd, x1, x2, x3])
    (o1 : aD x1 = true) (o2 : aD x2 = true) (o3 : aD x3 = true) (b : mam)
    (hE : ∀ tm' h', PqI qb it m wb wo wn c wc es ws we wopn wro wmk mro wflo wfhi qe qopn qmk qflo qfhi tm' h' (snoc seen e.2.2) (bif cu wd w2 then e.1 else q0) qs → (∀ i, bB i = false → bg tm' i = bg tm i) →
      (∀ x, x < h.next → x ≠ it → x ≠ qb → h'.get x = h.get x) → h.next ≤ h'.next → h'.next ≤ h.next + 1 → (∀ i, wT i = true → ∃ v, bg tm' i = some v ∧ Fg (jan i) v) →
      (cu wd w2 = true → ∀ i, 37 ≤ i → i ≤ 38 → ∃ v, bg tm' i = some v ∧ aD v = true) → (cu wd w2 = false → ∀ i, 37 ≤ i → i ≤ 38 → bg tm' i = bg tm i) → Ends C good ⟨⟨133, tm', .inLoop cb :: k, ds, .run, kd, rn⟩, cs, h'⟩) :
    Ends C good ⟨⟨133, zz tm 26 (.tup [.bool true, e.1, e.2.1]), .reg r4.toList [mo b (some 27) (.extract (.tmp 26) 0)] :: .code (.seq (.cond (.tmp 27) .skip (.exit 0)) (.block 1 (.seq (.region i5 r5 false) (.seq (.region i6 r6 true) (.cond (.tmp 36) (.region i7 r7 false) .skip))))) :: .inLoop cb :: k, ds, .run, kd, rn⟩, cs, h.put it (.mapIter (some m) c (snoc seen e.2.2) c)⟩ := by
  obtain ⟨P, E, O, base, w0, mu0, n0, CS⟩ := C
  simp only at hCE
  subst hCE
  have hl := I.len
  have hln := I.ltm
  have hli := I.lti
  have hlw := I.ltw
  have hlq := I.ltq
  have him := Sx.im
  have hiw := Sx.iw
  have hiq := Sx.iq
  have hqm := Sx.qm
  have hqw := Sx.qw
  refine xC K (fo rfl) (xE (l := [.bool true, e.1, e.2.1]) (v := .bool true) (qo (by rw [vg (by omega), if_pos rfl])) rfl) (ek _) ?_
  refine kW K (fJ K (wU K (y := true) (qo (by show bg (zz _ 27 _) 27 = _; rw [vg (by rw [ve]; omega), if_pos rfl])) ?_))
  refine iaq K (kaq K (fJ K (xG K ?_)))
  simp only [mo, zo]
  generalize htm1 : zz (zz tm 26 (.tup [.bool true, e.1, e.2.1])) 27 (.bool true) = tm1
  have hl1 : tm1.length = 54 := by rw [← htm1, ve, ve]; exact hl
  have hk1 : ∀ i, bB i = false → bg tm1 i = bg tm i := by
    intro i hi
    by_cases hi54 : i < 54
    · rw [← htm1, vg (by rw [ve]; omega), vg (by omega)]
      rw [if_neg (by rintro rfl; cases hi), if_neg (by rintro rfl; cases hi)]
    · rw [zg, zg, List.getElem?_eq_none (by omega), List.getElem?_eq_none (by omega)]
  generalize hh1 : h.put it (.mapIter (some m) c (snoc seen e.2.2) c) = h1
  have hn1 : h1.next = h.next := by rw [← hh1]; rfl
  have hg1 : ∀ x, x ≠ it → h1.get x = h.get x := fun x hx => by rw [← hh1, H.get_put, if_neg hx]
  have hgi : h1.get it = some (.mapIter (some m) c (snoc seen e.2.2) c) := by rw [← hh1, H.get_put, if_pos rfl]
  obtain ⟨a5, b5, c5, d5, e5, f5, h5⟩ := B.q5
  rw [h5]
  refine xC K (fo rfl) (mat (n := e.2.2) (k := e.1) (v := e.2.1) (qo (by rw [hk1 25 rfl, I.t25])) hgi (by rw [hg1 m him.symm, I.map]) (yam _ _) (Nat.beq_refl c) (Sx.find e he)) (ek _) ?_
  refine xC K (fo rfl) (xE (l := [e.1, e.2.1]) (v := e.1) (qo (by simp only [mo, zo]; rw [vg (by omega), if_pos rfl])) rfl) (ek _) ?_
  refine xC K (fo rfl) (xE (l := [e.1, e.2.1]) (v := e.2.1) (qo (by simp only [mo, zo]; rw [vg (by rw [ve]; omega), if_neg (by omega), vg (by omega), if_pos rfl])) rfl) (ek _) ?_
  refine xC K (fo rfl) (oat (i := nam) rfl) (qY _) ?_
  refine xC K (fo rfl) (wao (v := e.1) (qo (by simp only [mo, zo]; simp [vg, ve, hl1]))) (ek _) ?_
  simp only [mo, zo]
  generalize htm2 : zz (zz (zz (zz (zz tm1 28 (.tup [e.1, e.2.1])) 29 e.1) 30 e.2.1) 4 (.ptr h1.next 0)) 3 e.1 = tm2
  have hl2 : tm2.length = 54 := by rw [← htm2]; simp only [ve]; exact hl1
  have hk2 : ∀ i, bB i = false → bg tm2 i = bg tm i := by
    intro i hi
    rw [← hk1 i hi]
    by_cases hi54 : i < 54
    · rw [← htm2]
      simp only [vg, ve, hl1, hi54]
      rw [if_neg (by rintro rfl; cases hi), if_neg (by rintro rfl; cases hi), if_neg (by rintro rfl; cases hi), if_neg (by rintro rfl; cases hi), if_neg (by rintro rfl; cases hi)]
    · rw [zg, zg, List.getElem?_eq_none (by omega), List.getElem?_eq_none (by omega)]
  have h24 : bg tm2 4 = some (.ptr h1.next 0) := by rw [← htm2]; simp [vg, ve, hl1]
  have h230 : bg tm2 30 = some e.2.1 := by rw [← htm2]; simp [vg, ve, hl1]
  have h23 : bg tm2 3 = some e.1 := by rw [← htm2]; simp [vg, ve, hl1]
  have he30 : ev E0 tm2 (.tmp 30) = .agg [.str wd, x1, x2, x3] := by rw [qo h230, hwd]
  refine yak K (fo rfl) (jah (t := 268) (b := h1.next) (o := 0) (i := nam) (xs := nam.zero.cells) (ys := [.str wd, x1, x2, x3]) (e := 268) (opn := false) (mk := false) (flo := 0) (fhi := 0) (qo h24) rfl (by rw [he30]; rfl)
    (by unfold fresh; rw [H.wu, if_pos rfl]) (by rw [he30]; rfl) (by rw [he30]; show (bif aD (.str wd) then (bif aD x1 then (bif aD x2 then (bif aD x3 then true else false) else false) else false) else false) = true; rw [o1, o2, o3]; rfl) (by rw [he30]; rfl)) (ek _) ?_
  simp only [mo, zo]
  generalize hh2 : (fresh h1 nam.zero.cells 268 false).put h1.next (.cells [.str wd, x1, x2, x3] 268 false false 0 0 false) = h2
  have hn2 : h2.next = h.next + 1 := by rw [← hh2, ← hn1]; rfl
  have hg2 : ∀ x, x < h.next → x ≠ it → h2.get x = h.get x := fun x hx hxi => by
    rw [← hh2, H.get_put, if_neg (by omega)]
    unfold fresh
    rw [H.wu, if_neg (by omega), hg1 x hxi]
  have hgi2 : h2.get it = some (.mapIter (some m) c (snoc seen e.2.2) c) := by
    rw [← hh2, H.get_put, if_neg (by omega)]
    unfold fresh
    rw [H.wu, if_neg (by omega), hgi]
  have hgn : h2.get h1.next = some (.cells [.str wd, x1, x2, x3] 268 false false 0 0 false) := by rw [← hh2, H.get_put, if_pos rfl]
  refine kW K (fJ K (pau K B.plan ?_))
  obtain ⟨a6, b6, c6, d6, e6, f6, h6⟩ := B.q6
  rw [h6]
  have v31 : ∀ t, bg t 4 = some (.ptr h1.next 0) → aop E0 t (.fieldAddr 268 (.tmp 4) 0) h2 = .val (.ptr h1.next (0 + 0)) h2 := fun t ht => jQ rfl (qo ht)
  have v32 : ∀ t, bg t 31 = some (.ptr h1.next (0 + 0)) → aop E0 t (.load 9 (.tmp 31)) h2 = .val (.str wd) h2 := fun t ht => kah (i := y9) (qo ht) rfl rfl hgn rfl
  have v33 : ∀ t, bg t 2 = some (.sl wb wo wn wc) → aop E0 t (.move (.tmp 2)) h2 = .val (.sl wb wo wn wc) h2 := fun t ht => aam (qo ht)
  have v34 : ∀ t, bg t 33 = some (.sl wb wo wn wc) → aop E0 t (.indexAddr 77 (.tmp 33) (.const (.int .i64 2))) h2 = .val (.ptr wb (wo + 2 * oh E0 9)) h2 := fun t ht =>
    uad (e := 9) (k := .i64) (n := 2) (j := 2) rfl rfl (qo ht) rfl (by show (bif Nat.blt 2 wn then some 2 else none) = some 2; rw [au, decide_eq_true Sx.two]; rfl)
  have v35 : ∀ t, bg t 34 = some (.ptr wb (wo + 2 * oh E0 9)) → aop E0 t (.load 9 (.tmp 34)) h2 = .val (.str w2) h2 := fun t ht =>
    kah (i := y9) (qo ht) rfl rfl (by rw [hg2 wb hlw hiw.symm]; exact I.ws) (by rw [show oh E0 9 = 1 from rfl]; exact Sx.word)
  have v36 : ∀ t, bg t 32 = some (.str wd) → bg t 35 = some (.str w2) → aop E0 t (.binOp .eql 9 (.tmp 32) (.tmp 35) 9) h2 = .val (.bool (cu wd w2)) h2 := fun t h1 h2 => lat (qo h1) (qo h2)
  refine yG K (o := mo a6 (some 31) (.fieldAddr 268 (.tmp 4) 0)) rfl rfl (fo rfl) (v31 _ h24) ?_
  refine yG K (o := mo b6 (some 32) (.load 9 (.tmp 31))) rfl rfl (fo rfl) (v32 _ (by simp only [mo, zo]; simp [vg, ve, hl2])) ?_
  refine yG K (o := mo c6 (some 33) (.move (.tmp 2))) rfl rfl (fo rfl) (v33 _ (by simp only [mo, zo]; simp [vg, ve, hl2, hk2 2 rfl, I.t2])) ?_
  refine yG K (o := mo d6 (some 34) (.indexAddr 77 (.tmp 33) (.const (.int .i64 2)))) rfl rfl (fo rfl) (v34 _ (by simp only [mo, zo]; simp [vg, ve, hl2])) ?_
  refine yG K (o := mo e6 (some 35) (.load 9 (.tmp 34))) rfl rfl (fo rfl) (v35 _ (by simp only [mo, zo]; simp [vg, ve, hl2])) ?_
  refine yG K (o := mo f6 (some 36) (.binOp .eql 9 (.tmp 32) (.tmp 35) 9)) rfl rfl (fo rfl) (v36 _ (by simp only [mo, zo]; simp [vg, ve, hl2]) (by simp only [mo, zo]; simp [vg, ve, hl2])) ?_
  simp only [mo, zo]
  simp only [show Nat.beq 0 1 = false from rfl, cond_false]
  generalize htm3 : zz (zz (zz (zz (zz (zz tm2 31 (.ptr h1.next (0 + 0))) 32 (.str wd)) 33 (.sl wb wo wn wc)) 34 (.ptr wb (wo + 2 * oh E0 9))) 35 (.str w2)) 36 (.bool (cu wd w2)) = tm3
  have hl3 : tm3.length = 54 := by rw [← htm3]; simp only [ve]; exact hl2
  have hk3 : ∀ i, bB i = false → bg tm3 i = bg tm i := by
    intro i hi
    rw [← hk2 i hi]
    by_cases hi54 : i < 54
    · rw [← htm3]
      simp only [vg, ve, hl2, hi54]
      rw [if_neg (by rintro rfl; cases hi), if_neg (by rintro rfl; cases hi), if_neg (by rintro rfl; cases hi), if_neg (by rintro rfl; cases hi), if_neg (by rintro rfl; cases hi), if_neg (by rintro rfl; cases hi)]
    · rw [zg, zg, List.getElem?_eq_none (by omega), List.getElem?_eq_none (by omega)]
  have g4 : bg tm3 4 = some (.ptr h1.next 0) := by rw [← htm3]; simp [vg, ve, hl2, h24]
  have g3 : bg tm3 3 = some e.1 := by rw [← htm3]; simp [vg, ve, hl2, h23]
  have g31 : bg tm3 31 = some (.ptr h1.next (0 + 0)) := by rw [← htm3]; simp [vg, ve, hl2]
  have g32 : bg tm3 32 = some (.str wd) := by rw [← htm3]; simp [vg, ve, hl2]
  have g33 : bg tm3 33 = some (.sl wb wo wn wc) := by rw [← htm3]; simp [vg, ve, hl2]
  have g34 : bg tm3 34 = some (.ptr wb (wo + 2 * oh E0 9)) := by rw [← htm3]; simp [vg, ve, hl2]
  have g35 : bg tm3 35 = some (.str w2) := by rw [← htm3]; simp [vg, ve, hl2]
  have g36 : bg tm3 36 = some (.bool (cu wd w2)) := by rw [← htm3]; simp [vg, ve, hl2]
  have g2 : bg tm3 2 = some (.sl wb wo wn wc) := by rw [hk3 2 rfl, I.t2]
  have g28 : bg tm3 28 = some (.tup [e.1, e.2.1]) := by rw [← htm3, ← htm2]; simp [vg, ve, hl1]
  have g29 : bg tm3 29 = some e.1 := by rw [← htm3, ← htm2]; simp [vg, ve, hl1]
  have g30 : bg tm3 30 = some e.2.1 := by rw [← htm3]; simp [vg, ve, hl2, h230]
  have fg1 : Fg .bad e.1 := .bad _ (by rw [hk]; rfl)
  have fg2 : Fg (.agg [.bad, .bad, .bad, .bad]) e.2.1 := by rw [hwd]; exact .agg _ _ (.cons _ _ _ _ (.bad _ rfl) (.cons _ _ _ _ (.bad _ o1) (.cons _ _ _ _ (.bad _ o2) (.cons _ _ _ _ (.bad _ o3) .nil))))
  have hs3 : ∀ i, wT i = true → ∃ v, bg tm3 i = some v ∧ Fg (jan i) v := by
    intro i hi
    rcases pF hi with rfl | rfl | rfl | rfl | rfl | rfl | rfl | rfl | rfl | rfl | rfl
    · exact ⟨_, g3, fg1⟩
    · exact ⟨_, g4, .bad _ rfl⟩
    · exact ⟨_, g28, .tup _ _ (.cons _ _ _ _ fg1 (.cons _ _ _ _ fg2 .nil))⟩
    · exact ⟨_, g29, fg1⟩
    · exact ⟨_, g30, fg2⟩
    · exact ⟨_, g31, .bad _ rfl⟩
    · exact ⟨_, g32, .bad _ rfl⟩
    · exact ⟨_, g33, .bad _ rfl⟩
    · exact ⟨_, g34, .bad _ rfl⟩
    · exact ⟨_, g35, .bad _ rfl⟩
    · exact ⟨_, g36, .bad _ rfl⟩
  have hk37 : ∀ i, 37 ≤ i → i ≤ 38 → bg tm3 i = bg tm i := by
    intro i h1 h2
    have : i = 37 ∨ i = 38 := by omega
    rcases this with rfl | rfl <;> (rw [← htm3, ← htm2, ← htm1]; simp [vg, ve, hl])
  refine jaq K (dC (uD (m := f6) (d := 36) rfl rfl (v36 _ g32 g35) g36 (qZ _)) (dC (uD (m := e6) (d := 35) rfl rfl (v35 _ g34) g35 (yN _)) (dC (uD (m := d6) (d := 34) rfl rfl (v34 _ g33) g34 (zN _ _))
    (dC (uD (m := c6) (d := 33) rfl rfl (v33 _ g2) g33 (kae _ _ _ _)) (dC (uD (m := b6) (d := 32) rfl rfl (v32 _ g31) g32 (yN _)) (dC (uD (m := a6) (d := 31) rfl rfl (v31 _ g4) g31 (zN _ _)) rfl)))))) ?_
  refine wU K (qo g36) ?_
  cases hw : cu wd w2 with
  | false =>
    rw [cond_false]
    refine iaq K (jW K (hE tm3 h2 ?_ hk3 (fun x h1 h2 _ => hg2 x h1 h2) (by omega) (by omega) hs3 (fun hx => by rw [hw] at hx; cases hx) (fun _ => hk37)))
    rw [hw, cond_false]
    exact ⟨hl3, by rw [hk3 1 rfl, I.t1], g2, by rw [hk3 25 rfl, I.t25], hgi2, by rw [hg2 m hln him.symm, I.map], by rw [hg2 wb hlw hiw.symm, I.ws], by rw [hg2 qb hlq hiq.symm, I.q], by omega, by omega, by omega, by omega⟩
  | true =>
    rw [cond_true]
    refine xG K ?_
    obtain ⟨a7, b7, c7, h7⟩ := B.q7
    rw [h7]
    refine xC K (fo rfl) (aam (v := e.1) (qo g3)) (ek _) ?_
    refine xC K (fo rfl) (jQ (b := qb) (o := 0) (d := 0) rfl (qo (by simp only [mo, zo]; simp [vg, ve, hl3, hk3 1 rfl, I.t1]))) (ek _) ?_
    simp only [mo, zo]
    generalize htm4 : zz (zz tm3 37 e.1) 38 (.ptr qb (0 + 0)) = tm4
    have hl4 : tm4.length = 54 := by rw [← htm4]; simp only [ve]; exact hl3
    have hk4 : ∀ i, bB i = false → bg tm4 i = bg tm i := by
      intro i hi
      rw [← hk3 i hi]
      by_cases hi54 : i < 54
      · rw [← htm4]
        simp only [vg, ve, hl3, hi54]
        rw [if_neg (by rintro rfl; cases hi), if_neg (by rintro rfl; cases hi)]
      · rw [zg, zg, List.getElem?_eq_none (by omega), List.getElem?_eq_none (by omega)]
    have hs4 : ∀ i, wT i = true → ∃ v, bg tm4 i = some v ∧ Fg (jan i) v := by
      intro i hi
      obtain ⟨v, h1, h2⟩ := hs3 i hi
      refine ⟨v, ?_, h2⟩
      rw [← h1]
      rcases pF hi with rfl | rfl | rfl | rfl | rfl | rfl | rfl | rfl | rfl | rfl | rfl <;> (rw [← htm4]; simp [vg, ve, hl3])
    have ho4 : ∀ i, 37 ≤ i → i ≤ 38 → ∃ v, bg tm4 i = some v ∧ aD v = true := by
      intro i h1 h2
      have : i = 37 ∨ i = 38 := by omega
      rcases this with rfl | rfl
      · exact ⟨e.1, by rw [← htm4]; simp [vg, ve, hl3], by rw [hk]; rfl⟩
      · exact ⟨.ptr qb (0 + 0), by rw [← htm4]; simp [vg, ve, hl3], rfl⟩
    have g37 : ev E0 tm4 (.tmp 37) = .int .u8 i := by rw [← hk]; exact qo (by rw [← htm4]; simp [vg, ve, hl3])
    refine yak K (fo rfl) (jah (t := 5) (b := qb) (o := 0 + 0) (i := y5) (xs := q0 :: qs) (ys := e.1 :: qs) (e := qe) (opn := qopn) (mk := qmk) (flo := qflo) (fhi := qfhi) (qo (by rw [← htm4]; simp [vg, ve, hl3])) rfl (by rw [g37]; rfl)
      (by rw [hg2 qb hlq hiq.symm]; exact I.q) (by rw [g37]; exact Sx.clear) (by rw [g37]; rfl) (by rw [g37, hk]; show gz (q0 :: qs) 0 [V.int .u8 i] = _; rw [qy, uy])) (ek _) ?_
    simp only [mo, zo]
    refine kW K (jW K (hE tm4 _ ?_ hk4 (fun x h1 h2 h3 => by rw [H.get_put, if_neg h3]; exact hg2 x h1 h2) (by show h.next ≤ h2.next; omega) (by show h2.next ≤ h.next + 1; omega) hs4 (fun _ => ho4) (fun hx => by rw [hw] at hx; cases hx)))
    rw [hw, cond_true]
    exact ⟨hl4, by rw [hk4 1 rfl, I.t1], by rw [hk4 2 rfl, I.t2], by rw [hk4 25 rfl, I.t25], by rw [H.get_put, if_neg hiq]; exact hgi2, by rw [H.get_put, if_neg hqm.symm, hg2 m hln him.symm, I.map], by rw [H.get_put, if_neg hqw.symm, hg2 wb hlw hiw.symm, I.ws],
      by rw [H.get_put, if_pos rfl], by show m < h2.next; omega, by show it < h2.next; omega, by show wb < h2.next; omega, by show qb < h2.next; omega⟩
def zA (w2 : List Nat) (e : V × V × Nat) : Bool := match e.2.1 with
  | .agg (.str wd :: _) => cu wd w2
  | _ => false
def iae (tm : List V) : Prop := ∀ i, wT i = true → ∃ v, bg tm i = some v ∧ Fg (jan i) v
def jam (tm : List V) : Prop := ∀ i, 37 ≤ i → i ≤ 38 → ∃ v, bg tm i = some v ∧ aD v = true
theorem fal {es : List (V × V × Nat)} {w2 : List Nat} {seen : List Nat} {tm : List V} {a b : mam} {oa ob : Op} (hnil : leftOf seen es = []) (hsh : ∀ e ∈ es, bD e.2.2 seen = true → iae tm ∧ (zA w2 e = true → jam tm)) (hl : tm.length = 54) :
    ∀ e ∈ es, iae (zo (zo tm (mo a (some 26) oa).dst (.tup [.bool false])) (mo b (some 27) ob).dst (.bool false)) ∧ bg (zo (zo tm (mo a (some 26) oa).dst (.tup [.bool false])) (mo b (some 27) ob).dst (.bool false)) 26 = some (.tup [.bool false]) ∧
      bg (zo (zo tm (mo a (some 26) oa).dst (.tup [.bool false])) (mo b (some 27) ob).dst (.bool false)) 27 = some (.bool false) ∧ (zA w2 e = true → jam (zo (zo tm (mo a (some 26) oa).dst (.tup [.bool false])) (mo b (some 27) ob).dst (.bool false))) := by
  intro e he
  obtain ⟨h1, h2⟩ := hsh e he (bI hnil e he)
  simp only [mo, zo]
  refine ⟨fun i hi => ?_, by simp [vg, ve, hl], by simp [vg, ve, hl], fun hh i h3 h4 => ?_⟩
  · obtain ⟨v, h3, h4⟩ := h1 i hi
    refine ⟨v, ?_, h4⟩
    rw [← h3]
    rcases pF hi with rfl | rfl | rfl | rfl | rfl | rfl | rfl | rfl | rfl | rfl | rfl <;> simp [vg, ve, hl]
  · obtain ⟨v, h5, h6⟩ := h2 hh i h3 h4
    refine ⟨v, ?_, h6⟩
    rw [← h5]
    have : i = 37 ∨ i = 38 := by omega
    rcases this with rfl | rfl <;> simp [vg, ve, hl]
theorem yau (K : kF C) (hCE : C.E = E0) (B : PqC cb r4 r5 r6 r7 i4 i5 i6 i7) (Sx : PqS qb it m wb wo wn c wc es ws w2 qflo qfhi) (huniq : ∀ e ∈ es, ∀ e' ∈ es, zA w2 e = true → zA w2 e' = true → e.1 = e'.1) (q00 : V) (tm0 : List V) (h0 : H) {qs : List V}
    (X : ∀ tm' h' qF, tm'.length = 54 → (∀ i, bB i = false → bg tm' i = bg tm0 i) → (∀ x, x < h0.next → x ≠ it → x ≠ qb → h'.get x = h0.get x) → h'.get qb = some (.cells (qF :: qs) qe qopn false qflo qfhi qmk) → h0.next ≤ h'.next → h'.next ≤ h0.next + es.length →
      (∀ e ∈ es, iae tm' ∧ bg tm' 26 = some (.tup [.bool false]) ∧ bg tm' 27 = some (.bool false) ∧ (zA w2 e = true → jam tm')) →
      (∀ e ∈ es, zA w2 e = true → qF = e.1) → ((∀ e ∈ es, zA w2 e = false) → qF = q00) → Ends C good ⟨⟨133, tm', k, ds, .run, kd, rn⟩, cs, h'⟩) :
    ∀ (n : Nat) (tm : List V) (h : H) (seen : List Nat) (q0 : V), (leftOf seen es).length ≤ n → PqI qb it m wb wo wn c wc es ws we wopn wro wmk mro wflo wfhi qe qopn qmk qflo qfhi tm h seen q0 qs →
      (∀ i, bB i = false → bg tm i = bg tm0 i) → (∀ x, x < h0.next → x ≠ it → x ≠ qb → h.get x = h0.get x) → h0.next ≤ h.next → h.next + (leftOf seen es).length ≤ h0.next + es.length → (∀ e ∈ es, bD e.2.2 seen = true → iae tm ∧ (zA w2 e = true → jam tm)) →
      (∀ e ∈ es, bD e.2.2 seen = true → zA w2 e = true → q0 = e.1) → ((∀ e ∈ es, bD e.2.2 seen = true → zA w2 e = false) → q0 = q00) →
      Ends C good ⟨⟨133, tm, .code cb :: .inLoop cb :: .inBlock 0 :: k, ds, .run, kd, rn⟩, cs, h⟩ := by
  intro n
  induction n with
  | zero =>
    intro tm h seen q0 hn I hkeep hframe hnext hnx hsh hc1 hc2
    have hnil : leftOf seen es = [] := List.eq_nil_of_length_eq_zero (by omega)
    rw [congrArg It.code B.eq]
    refine fJ K (xG K ?_)
    obtain ⟨a4, b4, h4⟩ := B.q4
    rw [h4]
    refine xC K (fo rfl) (fU (qo I.t25) I.iter I.map (by rw [bu]; simp) Sx.old hnil) (ek _) ?_
    refine xC K (fo rfl) (xE (l := [.bool false]) (v := .bool false) (qo (by simp only [mo, zo]; simp [vg, ve, I.len])) rfl) (ek _) ?_
    refine kW K (fJ K (wU K (y := false) (qo (by simp only [mo, zo]; simp [vg, ve, I.len])) (zak K rfl ?_)))
    refine X _ h q0 (by simp only [mo, zo, ve]; exact I.len) (fun i hi => ?_) hframe I.q hnext (by omega) (fal hnil hsh I.len) (fun e he => hc1 e he (bI hnil e he)) (fun hno => hc2 fun e he _ => hno e he)
    rw [← hkeep i hi]
    simp only [mo, zo]
    by_cases hi54 : i < 54
    · rw [vg (by rw [ve, I.len]; exact hi54), vg (by rw [I.len]; exact hi54), if_neg (by rintro rfl; cases hi), if_neg (by rintro rfl; cases hi)]
    · have := I.len
      rw [zg, zg, List.getElem?_eq_none (by rw [ve, ve]; omega), List.getElem?_eq_none (by omega)]
  | succ n ih =>
    intro tm h seen q0 hn I hkeep hframe hnext hnx hsh hc1 hc2
    by_cases hnil : leftOf seen es = []
    · rw [congrArg It.code B.eq]
      refine fJ K (xG K ?_)
      obtain ⟨a4, b4, h4⟩ := B.q4
      rw [h4]
      refine xC K (fo rfl) (fU (qo I.t25) I.iter I.map (by rw [bu]; simp) Sx.old hnil) (ek _) ?_
      refine xC K (fo rfl) (xE (l := [.bool false]) (v := .bool false) (qo (by simp only [mo, zo]; simp [vg, ve, I.len])) rfl) (ek _) ?_
      refine kW K (fJ K (wU K (y := false) (qo (by simp only [mo, zo]; simp [vg, ve, I.len])) (zak K rfl ?_)))
      refine X _ h q0 (by simp only [mo, zo, ve]; exact I.len) (fun i hi => ?_) hframe I.q hnext (by omega) (fal hnil hsh I.len) (fun e he => hc1 e he (bI hnil e he)) (fun hno => hc2 fun e he _ => hno e he)
      rw [← hkeep i hi]
      simp only [mo, zo]
      by_cases hi54 : i < 54
      · rw [vg (by rw [ve, I.len]; exact hi54), vg (by rw [I.len]; exact hi54), if_neg (by rintro rfl; cases hi), if_neg (by rintro rfl; cases hi)]
      · have := I.len
        rw [zg, zg, List.getElem?_eq_none (by rw [ve, ve]; omega), List.getElem?_eq_none (by omega)]
    · rw [congrArg It.code B.eq]
      refine fJ K (xG K ?_)
      obtain ⟨a4, b4, h4⟩ := B.q4
      have hgoal : ∀ (l1 : List Oper), l1 = r4.toList → Ends C good ⟨⟨133, tm, .reg r4.toList l1 :: .code (.seq (.cond (.tmp 27) .skip (.exit 0)) (.block 1 (.seq (.region i5 r5 false) (.seq (.region i6 r6 true) (.cond (.tmp 36) (.region i7 r7 false) .skip))))) :: .inLoop cb :: .inBlock 0 :: k, ds, .run, kd, rn⟩, cs, h⟩ := by
        intro l1 hl1
        rw [hl1.trans h4]
        refine qau K (fo rfl) (tad (qo I.t25) I.iter I.map (by rw [bu]; simp) Sx.old rfl hnil) ?_
        intro x hx
        obtain ⟨e, he, rfl⟩ := nae hx
        obtain ⟨hee, hes⟩ := dN he
        obtain ⟨i, wd, x1, x2, x3, hk1, hk2, o1, o2, o3⟩ := Sx.shape e hee
        have hhit : zA w2 e = cu wd w2 := by unfold zA; rw [hk2]
        refine ⟨ek _, ?_⟩
        refine taq K hCE B Sx I hee hk1 hk2 o1 o2 o3 b4 ?_
        intro tm' h' I' hk' hf' hn' hm' hs1 hs2 hs3
        refine uam K (ih tm' h' _ _ (by have := sF he; omega) I' (fun i hi => (hk' i hi).trans (hkeep i hi)) (fun x hx hx1 hx2 => (hf' x (by omega) hx1 hx2).trans (hframe x hx hx1 hx2)) (by omega) (by have := sF he; omega) ?_ ?_ ?_)
        · intro e' he' hmm
          refine ⟨hs1, fun hh' => ?_⟩
          cases hw : cu wd w2 with
          | true => exact hs2 hw
          | false =>
            rw [qD, Bool.or_eq_true] at hmm
            rcases hmm with hmm | hmm
            · intro i h1 h2
              rw [hs3 hw i h1 h2]
              exact (hsh e' he' hmm).2 hh' i h1 h2
            · have hb := Nat.eq_of_beq_eq_true hmm
              have f1 := Sx.find e' he'
              have f2 := Sx.find e hee
              rw [hb, f2] at f1
              injection f1 with f1
              injection f1 with f1 f3
              unfold zA at hh'
              rw [← f3, hk2] at hh'
              simp only at hh'
              rw [hw] at hh'
              cases hh'
        · intro e' he' hm' hh'
          rw [qD, Bool.or_eq_true] at hm'
          cases hw : cu wd w2 with
          | true =>
            rw [cond_true]
            exact huniq e hee e' he' (by rw [hhit, hw]) hh'
          | false =>
            rw [cond_false]
            rcases hm' with hm' | hm'
            · exact hc1 e' he' hm' hh'
            · have hb := Nat.eq_of_beq_eq_true hm'
              have f1 := Sx.find e' he'
              have f2 := Sx.find e hee
              rw [hb, f2] at f1
              injection f1 with f1
              injection f1 with f1 f3
              unfold zA at hh'
              rw [← f3, hk2] at hh'
              simp only at hh'
              rw [hw] at hh'
              cases hh'
        · intro hno
          have he0 := hno e hee (by rw [qD, show Nat.beq e.2.2 e.2.2 = true from Nat.beq_refl _]; simp)
          rw [hhit] at he0
          rw [he0, cond_false]
          exact hc2 fun e' he' hm' => hno e' he' (by rw [qD, hm']; rfl)
      exact hgoal _ rfl
end
end Go.Ev
end
noncomputable section
namespace Go.Ev
open Go.Proofs
set_option maxRecDepth 100000
noncomputable section
def wM : Operand → Operand → Bool
  | .tmp a, b => (match b with | .tmp b => Nat.beq a b | _ => false)
  | .const (.int k n), b => (match b with | .const (.int k' n') => decide (k = k') && decide (n = n') | _ => false)
  | _, _ => false
theorem gD {a b : Operand} (h : wM a b = true) : a = b := by
  unfold wM at h
  split at h
  · split at h
    · rw [Nat.eq_of_beq_eq_true h]
    · cases h
  · split at h
    · rw [Bool.and_eq_true, decide_eq_true_eq, decide_eq_true_eq] at h
      rw [h.1, h.2]
    · cases h
  · cases h
def paJ (a b : Op) : Bool := match b with
  | .next x s => (match a with | .next x' s' => wM x' x && decide (s' = s) | _ => false)
  | .extract x n => (match a with | .extract x' n' => wM x' x && Nat.beq n' n | _ => false)
  | .entry x => (match a with | .entry x' => wM x' x | _ => false)
  | .alloc t => (match a with | .alloc t' => Nat.beq t' t | _ => false)
  | .assign x => (match a with | .assign x' => wM x' x | _ => false)
  | .move x => (match a with | .move x' => wM x' x | _ => false)
  | .store t x y => (match a with | .store t' x' y' => Nat.beq t' t && wM x' x && wM y' y | _ => false)
  | .load t x => (match a with | .load t' x' => Nat.beq t' t && wM x' x | _ => false)
  | .fieldAddr t x n => (match a with | .fieldAddr t' x' n' => Nat.beq t' t && wM x' x && Nat.beq n' n | _ => false)
  | .indexAddr t x y => (match a with | .indexAddr t' x' y' => Nat.beq t' t && wM x' x && wM y' y | _ => false)
  | .binOp .eql t x y u => (match a with | .binOp .eql t' x' y' u' => Nat.beq t' t && wM x' x && wM y' y && Nat.beq u' u | _ => false)
  | _ => false
theorem aav {a b : Op} (h : paJ a b = true) : a = b := by
  unfold paJ at h
  split at h <;> first
    | (split at h
       · try simp only [Bool.and_eq_true, decide_eq_true_eq] at h
         first
           | (rw [gD h.1.1.2, gD h.1.2, Nat.eq_of_beq_eq_true h.1.1.1, Nat.eq_of_beq_eq_true h.2])
           | (rw [Nat.eq_of_beq_eq_true h.1.1, gD h.1.2, gD h.2])
           | (rw [Nat.eq_of_beq_eq_true h.1.1, gD h.1.2, Nat.eq_of_beq_eq_true h.2])
           | (rw [Nat.eq_of_beq_eq_true h.1, gD h.2])
           | (rw [gD h.1, Nat.eq_of_beq_eq_true h.2])
           | (rw [gD h.1, h.2])
           | (rw [gD h])
           | (rw [Nat.eq_of_beq_eq_true h])
       · cases h)
    | cases h
def waJ (o : Oper) (d : Option Nat) (op : Op) : Bool := match o with
  | ⟨d', op', _, _, _, none⟩ => decide (d' = d) && paJ op' op
  | _ => false
theorem zav {o : Oper} {d : Option Nat} {op : Op} (h : waJ o d op = true) : ∃ m, o = mo m d op := by
  unfold waJ at h
  split at h
  · rw [Bool.and_eq_true, decide_eq_true_eq] at h
    rw [h.1, aav h.2]
    exact ⟨⟨_, _, _⟩, rfl⟩
  · cases h
def kP : List Oper → List (Option Nat × Op) → Bool
  | [], [] => true
  | o :: l, (d, op) :: k => waJ o d op && kP l k
  | _, _ => false
theorem wK {l : List Oper} (h : kP l [] = true) : l = [] := by
  cases l with
  | nil => rfl
  | cons a l => cases h
theorem ql {l : List Oper} {d : Option Nat} {op : Op} {k : List (Option Nat × Op)} (h : kP l ((d, op) :: k) = true) : ∃ m l', l = mo m d op :: l' ∧ kP l' k = true := by
  cases l with
  | nil => cases h
  | cons a l =>
    rw [kP, Bool.and_eq_true] at h
    obtain ⟨m, rfl⟩ := zav h.1
    exact ⟨m, l, rfl, h.2⟩
def m4 : List (Option Nat × Op) := [(some 26, .next (.tmp 25) false), (some 27, .extract (.tmp 26) 0)]
def m5 : List (Option Nat × Op) := [(some 28, .entry (.tmp 25)), (some 29, .extract (.tmp 28) 0), (some 30, .extract (.tmp 28) 1), (some 4, .alloc 268), (some 3, .assign (.tmp 29)), (none, .store 268 (.tmp 4) (.tmp 30))]
def m6 : List (Option Nat × Op) := [(some 31, .fieldAddr 268 (.tmp 4) 0), (some 32, .load 9 (.tmp 31)), (some 33, .move (.tmp 2)), (some 34, .indexAddr 77 (.tmp 33) (.const (.int .i64 2))), (some 35, .load 9 (.tmp 34)), (some 36, .binOp .eql 9 (.tmp 32) (.tmp 35) 9)]
def m7 : List (Option Nat × Op) := [(some 37, .move (.tmp 3)), (some 38, .fieldAddr 162 (.tmp 1) 0), (none, .store 5 (.tmp 38) (.tmp 37))]
def vaJ (b : Code) : Bool := match b with
  | .seq (.region _ r4 false) (.seq (.cond (.tmp a) .skip (.exit 0)) (.block 1 (.seq (.region _ r5 false) (.seq (.region _ r6 true) (.cond (.tmp c) (.region _ r7 false) .skip))))) =>
    Nat.beq a 27 && Nat.beq c 36 && kP r4.toList m4 && kP r5.toList m5 && kP r6.toList m6 && kP r7.toList m7 && decide (pJ E0 r6.toList = some [(0, 0), (1, 0), (2, 0), (3, 0), (4, 0), (5, 0)])
  | _ => false
theorem yav {b : Code} (h : vaJ b = true) : ∃ r4 r5 r6 r7 i4 i5 i6 i7, PqC b r4 r5 r6 r7 i4 i5 i6 i7 := by
  unfold vaJ at h
  split at h
  · rename_i i4 r4 a i5 r5 i6 r6 c i7 r7
    simp only [Bool.and_eq_true, decide_eq_true_eq] at h
    obtain ⟨⟨⟨⟨⟨⟨h1, h2⟩, h3⟩, h4⟩, h5⟩, h6⟩, h7⟩ := h
    have h1 := Nat.eq_of_beq_eq_true h1
    have h2 := Nat.eq_of_beq_eq_true h2
    subst h1 h2
    refine ⟨r4, r5, r6, r7, i4, i5, i6, i7, rfl, ?_, ?_, ?_, ?_, h7⟩
    · obtain ⟨a, l1, e1, h⟩ := ql h3
      obtain ⟨b, l2, e2, h⟩ := ql h
      exact ⟨a, b, by rw [e1, e2, wK h]⟩
    · obtain ⟨a, l1, e1, h⟩ := ql h4
      obtain ⟨b, l2, e2, h⟩ := ql h
      obtain ⟨c, l3, e3, h⟩ := ql h
      obtain ⟨d, l4, e4, h⟩ := ql h
      obtain ⟨e, l5, e5, h⟩ := ql h
      obtain ⟨f, l6, e6, h⟩ := ql h
      exact ⟨a, b, c, d, e, f, by rw [e1, e2, e3, e4, e5, e6, wK h]⟩
    · obtain ⟨a, l1, e1, h⟩ := ql h6
      obtain ⟨b, l2, e2, h⟩ := ql h
      obtain ⟨c, l3, e3, h⟩ := ql h
      exact ⟨a, b, c, by rw [e1, e2, e3, wK h]⟩
    · obtain ⟨a, l1, e1, h⟩ := ql h5
      obtain ⟨b, l2, e2, h⟩ := ql h
      obtain ⟨c, l3, e3, h⟩ := ql h
      obtain ⟨d, l4, e4, h⟩ := ql h
      obtain ⟨e, l5, e5, h⟩ := ql h
      obtain ⟨f, l6, e6, h⟩ := ql h
      exact ⟨a, b, c, d, e, f, by rw [e1, e2, e3, e4, e5, e6, wK h]⟩
  · cases h
def ial (n : Nat) : List (V × V × Nat) → Bool
  | [] => true
  | (_, _, b) :: l => bif Nat.beq b n then false else ial n l
def distinct : List (V × V × Nat) → Bool
  | [] => true
  | (_, _, b) :: l => ial b l && distinct l
theorem laf {n : Nat} : ∀ {l : List (V × V × Nat)}, ial n l = true → ∀ e ∈ l, e.2.2 ≠ n
  | [], _, e, he => by cases he
  | (k, v, b) :: l, h, e, he => by
    rw [ial] at h
    cases hb : Nat.beq b n with
    | true => rw [hb] at h; cases h
    | false =>
      rw [hb, cond_false] at h
      rcases List.mem_cons.1 he with rfl | he
      · intro e; rw [show b = n from e, Nat.beq_refl] at hb; cases hb
      · exact laf h e he
theorem bM : ∀ {l : List (V × V × Nat)}, distinct l = true → ∀ e ∈ l, uC e.2.2 l = some (e.1, e.2.1)
  | [], _, e, he => by cases he
  | (k, v, b) :: l, h, e, he => by
    rw [distinct, Bool.and_eq_true] at h
    rw [uC]
    rcases List.mem_cons.1 he with rfl | he
    · simp only; rw [Nat.beq_refl, cond_true]
    · have := laf h.1 e he
      rw [show Nat.beq b e.2.2 = false from by
        cases hb : Nat.beq b e.2.2 with
        | false => rfl
        | true => exact absurd (Nat.eq_of_beq_eq_true hb).symm this, cond_false]
      exact bM h.2 e he
def xU (e : V × V × Nat) : Bool := match e with
  | (.int .u8 _, .agg [.str _, a, b, d], _) => aD a && aD b && aD d
  | _ => false
theorem fai {e : V × V × Nat} (h : xU e = true) : ∃ i wd a b d, e.1 = .int .u8 i ∧ e.2.1 = .agg [.str wd, a, b, d] ∧ aD a = true ∧ aD b = true ∧ aD d = true := by
  unfold xU at h
  split at h
  · rw [Bool.and_eq_true, Bool.and_eq_true] at h
    exact ⟨_, _, _, _, _, rfl, rfl, h.1.1, h.1.2, h.2⟩
  · cases h
def cam : List (V × V × Nat) → Bool
  | [] => true
  | e :: l => xU e && cam l
theorem bab : ∀ {l : List (V × V × Nat)}, cam l = true → ∀ e ∈ l, xU e = true
  | [], _, e, he => by cases he
  | a :: l, h, e, he => by
    rw [cam, Bool.and_eq_true] at h
    rcases List.mem_cons.1 he with rfl | he
    · exact h.1
    · exact bab h.2 e he
def hits (w2 : List Nat) : List (V × V × Nat) → List (V × V × Nat)
  | [] => []
  | e :: l => bif zA w2 e then e :: hits w2 l else hits w2 l
theorem qP {w2 : List Nat} : ∀ {l : List (V × V × Nat)} {e : V × V × Nat}, e ∈ hits w2 l ↔ e ∈ l ∧ zA w2 e = true
  | [], e => by simp [hits]
  | a :: l, e => by
    rw [hits]
    cases ha : zA w2 a with
    | true =>
      rw [cond_true, List.mem_cons, List.mem_cons, qP]
      constructor
      · rintro (rfl | ⟨h1, h2⟩)
        · exact ⟨.inl rfl, ha⟩
        · exact ⟨.inr h1, h2⟩
      · rintro ⟨rfl | h1, h2⟩
        · exact .inl rfl
        · exact .inr ⟨h1, h2⟩
    | false =>
      rw [cond_false, List.mem_cons, qP]
      constructor
      · rintro ⟨h1, h2⟩; exact ⟨.inr h1, h2⟩
      · rintro ⟨rfl | h1, h2⟩
        · rw [ha] at h2; cases h2
        · exact ⟨h1, h2⟩
def pqF : Nat → V
  | 26 => .tup [.bool false]
  | 27 => .bool false
  | n => jan n
def gaf : List V → Nat → List V
  | [], _ => []
  | v :: l, i => (bif bB i then pqF i else v) :: gaf l (i + 1)
theorem qO : ∀ (l : List V) (i : Nat), (gaf l i).length = l.length
  | [], _ => rfl
  | _ :: l, i => by rw [gaf, List.length_cons, List.length_cons, qO l]
theorem faf : ∀ (l : List V) (i j : Nat) (v : V), bg l j = some v → bg (gaf l i) j = some (bif bB (i + j) then pqF (i + j) else v)
  | [], _, j, _, h => by rw [zg] at h; simp at h
  | a :: l, i, 0, v, h => by rw [eu] at h; cases h; rfl
  | a :: l, i, j + 1, v, h => by
    rw [yl] at h
    rw [gaf, yl, faf l (i + 1) j v h, show i + 1 + j = i + (j + 1) from by omega]
def wI (h : H) (it qb : Nat) (o : Ob) (nx : Nat) : Nat → H
  | 0 => H.empty nx
  | n + 1 => bif Nat.beq n it then wI h it qb o nx n else bif Nat.beq n qb then (wI h it qb o nx n).put n o else match h.get n with
    | some x => (wI h it qb o nx n).put n x
    | none => wI h it qb o nx n
theorem zB (h : H) (it qb : Nat) (o : Ob) (nx : Nat) : ∀ n, (wI h it qb o nx n).next = nx
  | 0 => rfl
  | n + 1 => by
    rw [wI]
    cases Nat.beq n it with
    | true => exact zB h it qb o nx n
    | false =>
      rw [cond_false]
      cases Nat.beq n qb with
      | true => exact zB h it qb o nx n
      | false =>
        rw [cond_false]
        split
        · exact zB h it qb o nx n
        · exact zB h it qb o nx n
theorem uR (h : H) (it qb : Nat) (o : Ob) (nx : Nat) : ∀ n b x, (wI h it qb o nx n).get b = some x → b < n ∧ b ≠ it ∧ (b = qb ∧ x = o ∨ b ≠ qb ∧ h.get b = some x)
  | 0, b, x, hx => by rw [wI, H.dS] at hx; cases hx
  | n + 1, b, x, hx => by
    have ih := uR h it qb o nx n b x
    rw [wI] at hx
    cases h1 : Nat.beq n it with
    | true =>
      rw [h1, cond_true] at hx
      obtain ⟨g1, g2⟩ := ih hx
      exact ⟨by omega, g2⟩
    | false =>
      have hni : n ≠ it := fun e => by rw [e, Nat.beq_refl] at h1; cases h1
      rw [h1, cond_false] at hx
      cases h2 : Nat.beq n qb with
      | true =>
        have hnq := Nat.eq_of_beq_eq_true h2
        rw [h2, cond_true, H.get_put] at hx
        split at hx
        · rename_i hb
          cases hx
          exact ⟨by omega, by omega, .inl ⟨by omega, rfl⟩⟩
        · obtain ⟨g1, g2⟩ := ih hx
          exact ⟨by omega, g2⟩
      | false =>
        have hnq : n ≠ qb := fun e => by rw [e, Nat.beq_refl] at h2; cases h2
        rw [h2, cond_false] at hx
        split at hx
        · rename_i y hy
          rw [H.get_put] at hx
          split at hx
          · rename_i hb
            cases hx
            exact ⟨by omega, by omega, .inr ⟨by omega, by rw [hb, hy]⟩⟩
          · obtain ⟨g1, g2⟩ := ih hx
            exact ⟨by omega, g2⟩
        · obtain ⟨g1, g2⟩ := ih hx
          exact ⟨by omega, g2⟩
def allFit (E : Env) : List F → Bool
  | [] => true
  | c :: l => taj E c && allFit E l
theorem cZ {E : Env} : ∀ {l : List F}, allFit E l = true → ∀ c ∈ l, taj E c = true
  | [], _, e, he => by cases he
  | a :: l, h, e, he => by
    rw [allFit, Bool.and_eq_true] at h
    rcases List.mem_cons.1 he with rfl | he
    · exact h.1
    · exact cZ h.2 e he
end
end Go.Ev
end
noncomputable section
namespace Go.Ev
open Go.Proofs
set_option maxRecDepth 100000
noncomputable section
def uaq (s : S) : Bool := match s.fr.todo with
  | .code (.loop _) :: _ => Nat.beq s.fr.fn 133
  | _ => false
def xab (K : Kit) (n : Nat) (s : S) : Bool := match s with
  | ⟨⟨fn, tm, .code (.loop cb) :: .inBlock 0 :: k, ds, .run, kd, rn⟩, cs, h⟩ =>
    Nat.beq fn 133 && vaJ cb && Nat.beq tm.length 54 && ear k && Nat.beq (zl K.E 133) 54 && allFit K.E cs &&
    (match bg tm 1, bg tm 2, bg tm 25 with
    | some (.ptr qb 0), some (.sl wb wo wn _), some (.ptr it 0) => (match h.get it, h.get wb, h.get qb with
      | some (.mapIter (some m) c [] c'), some (.cells ws _ _ _ _ _ _), some (.cells (_ :: qs) qe qopn false qflo qfhi qmk) => (match h.get m, bg ws (wo + 2) with
        | some (.map es c'' _), some (.str w2) =>
          Nat.beq c' c && Nat.beq c'' c && lI c es && Nat.blt 2 wn && !Nat.beq it m && !Nat.beq it wb && !Nat.beq it qb && !Nat.beq qb m && !Nat.beq qb wb && iI qflo qfhi 0 1 && distinct es && cam es &&
          Nat.blt m h.next && Nat.blt it h.next && Nat.blt wb h.next && Nat.blt qb h.next &&
          (match hits w2 es with
          | [e0] => goN K n (ofL (gaf tm 0) 0 rg0) (k.map (Tk.mk 133)) ⟨133, ds, kd, rn, cs.map mU⟩ (wI h it qb (.cells (e0.1 :: qs) qe qopn false qflo qfhi qmk) (h.next + es.length) h.next)
          | _ => false)
        | _, _ => false)
      | _, _, _ => false)
    | _, _, _ => false)
  | _ => false
theorem wO {a b : Nat} (h : (!Nat.beq a b) = true) : a ≠ b := by
  rintro rfl
  rw [Nat.beq_refl] at h
  cases h
theorem qai {K : Kit} {C : Cx} {good : Nat → V → H → Bool} (hK : wB K C good) (hCE : C.E = E0) {n : Nat} {s : S} (h : xab K n s = true) : Ends C good s := by
  unfold xab at h
  split at h
  rotate_left
  · cases h
  rename_i s fn tm cb k ds kd rn cs h0
  rw [Bool.and_eq_true] at h
  obtain ⟨hA, h⟩ := h
  split at h
  rotate_left
  · cases h
  rename_i qb wb wo wn wc it t1 t2 t25
  split at h
  rotate_left
  · cases h
  rename_i m c c' ws we wopn wro wflo wfhi wmk q0 qs qe qopn qflo qfhi qmk hit hws hq
  split at h
  rotate_left
  · cases h
  rename_i es c'' mro w2 hmap hw2
  rw [Bool.and_eq_true] at h
  obtain ⟨hB, h⟩ := h
  split at h
  rotate_left
  · cases h
  rename_i e0 hh
  simp only [Bool.and_eq_true, au, decide_eq_true_eq] at hA hB
  obtain ⟨⟨⟨⟨⟨a1, a2⟩, a3⟩, a4⟩, a5⟩, a6⟩ := hA
  obtain ⟨⟨⟨⟨⟨⟨⟨⟨⟨⟨⟨⟨⟨⟨⟨b1, b2⟩, b3⟩, b4⟩, b5⟩, b6⟩, b7⟩, b8⟩, b9⟩, b10⟩, b11⟩, b12⟩, b13⟩, b14⟩, b15⟩, b16⟩ := hB
  have a1 := Nat.eq_of_beq_eq_true a1
  have a3 := Nat.eq_of_beq_eq_true a3
  have a5 := Nat.eq_of_beq_eq_true a5
  have b1 := Nat.eq_of_beq_eq_true b1
  have b2 := Nat.eq_of_beq_eq_true b2
  subst a1
  rw [b1] at hit
  rw [b2] at hmap
  obtain ⟨r4, r5, r6, r7, i4, i5, i6, i7, B⟩ := yav a2
  have KC := hK.cx
  have Sx : PqS qb it m wb wo wn c wc es ws w2 qflo qfhi := ⟨b3, hw2, b4, wO b5, wO b6, wO b7, wO b8, wO b9, b10, bM b11, fun e he => fai (bab b12 e he)⟩
  have h1 : ∀ e, e ∈ es → zA w2 e = true → e = e0 := fun e he hp => by
    have := (qP (l := es)).2 ⟨he, hp⟩
    rw [hh] at this
    exact List.mem_singleton.1 this
  have h2 : e0 ∈ es ∧ zA w2 e0 = true := qP.1 (by rw [hh]; exact List.mem_singleton.2 rfl)
  refine oau KC (yau KC hCE B Sx (fun e he e' he' g1 g2 => by rw [h1 e he g1, h1 e' he' g2]) q0 tm h0 ?_ (leftOf [] es).length tm h0 [] q0 (Nat.le_refl _) ⟨a3, t1, t2, t25, hit, hmap, hws, hq, b13, b14, b15, b16⟩ (fun _ _ => rfl) (fun _ _ _ _ => rfl) (Nat.le_refl _) ?_ ?_ ?_ ?_)
  · intro tm' h' qF g1 g2 g3 g4 g5 g6 g7 g8 _
    have hqF := g8 e0 h2.1 h2.2
    subst hqF
    obtain ⟨g9, g10, g11, g12⟩ := g7 e0 h2.1
    have g12 := g12 h2.2
    refine Ends.forget (hc := wI h0 it qb (.cells (e0.1 :: qs) qe qopn false qflo qfhi qmk) (h0.next + es.length) h0.next) ?_ (by rw [zB]; exact g6) ?_ ?_
    · intro b o hb
      obtain ⟨k1, k2, k3 | k3⟩ := uR _ _ _ _ _ _ _ _ hb
      · rw [k3.1, k3.2]; exact g4
      · rw [g3 b k1 k2 k3.1]; exact k3.2
    · intro b hb
      rw [zB] at hb
      cases hx : (wI h0 it qb (.cells (e0.1 :: qs) qe qopn false qflo qfhi qmk) (h0.next + es.length) h0.next).get b with
      | none => rfl
      | some x => have := (uR _ _ _ _ _ _ _ _ hx).1; omega
    · refine Ends.fas (tmc := gaf tm 0) ?_ a4 ?_
      · refine Fgs.of _ _ (by rw [qO]; omega) fun i a b ha hb => ?_
        have hi : i < tm.length := by
          have : bg (gaf tm 0) i ≠ none := by rw [ha]; simp
          rw [zg, Ne, List.getElem?_eq_none_iff, qO] at this
          omega
        have hv : bg tm i = some (tm[i]) := by rw [zg]; simp [hi]
        rw [faf tm 0 i _ hv, Nat.zero_add] at ha
        cases hd : bB i with
        | false =>
          rw [hd, cond_false] at ha
          cases ha
          rw [g2 i hd, hv] at hb
          cases hb
          exact .refl _
        | true =>
          rw [hd, cond_true] at ha
          cases ha
          have : wT i = true ∨ i = 26 ∨ i = 27 ∨ i = 37 ∨ i = 38 := by
            unfold bB at hd
            simp only [Bool.or_eq_true, Bool.and_eq_true, bu, decide_eq_true_eq] at hd
            unfold wT
            simp only [Bool.or_eq_true, Bool.and_eq_true, bu, decide_eq_true_eq]
            rcases hd with hd | hd
            · exact .inl (.inl hd)
            · by_cases x : 28 ≤ i ∧ i ≤ 36
              · exact .inl (.inr x)
              · omega
          rcases this with hp | rfl | rfl | rfl | rfl
          · obtain ⟨v, k1, k2⟩ := g9 i hp
            rw [k1] at hb
            cases hb
            have : pqF i = jan i := by rcases pF hp with rfl | rfl | rfl | rfl | rfl | rfl | rfl | rfl | rfl | rfl | rfl <;> rfl
            rw [this]
            exact k2
          · rw [g10] at hb; cases hb; exact .refl _
          · rw [g11] at hb; cases hb; exact .refl _
          · obtain ⟨v, k1, k2⟩ := g12 37 (by omega) (by omega)
            rw [k1] at hb; cases hb; exact .bad _ k2
          · obtain ⟨v, k1, k2⟩ := g12 38 (by omega) (by omega)
            rw [k1] at hb; cases hb; exact .bad _ k2
      · refine waj hK (n := n) rfl ?_ (cZ a6) h
        unfold taj
        simp only [qO]
        rw [a3, a5]
        rfl
  · have : (leftOf [] es).length ≤ es.length := by
      have : leftOf [] es = es := by
        clear h Sx h1 h2 hh hmap b3 b11 b12 b1 b2
        induction es with
        | nil => rfl
        | cons a l ih => obtain ⟨k, v, b⟩ := a; rw [leftOf]; simp [bD, ih]
      rw [this]
      exact Nat.le_refl _
    omega
  · intro e he hm; cases hm
  · intro e he hm; cases hm
  · intro _; rfl
def rO (e : Ent) (es : List Ent) (N n : Nat) : Bool := match eB E0 e.f e.args .normal with
  | some F => (match qab E0 (ah E0.ng es) uaq N ⟨F, [], jg e.hin⟩ with
    | some s => xab ⟨E0, ah E0.ng es, nk es, kg e⟩ n s
    | none => false)
  | none => false
theorem yH {P : Program} {W : Nat → World → Prop} {e : Ent} {es : List Ent} {N n : Nat} (hs : df E0.ng e = true) (h : rO e es N n = true) : mf P E0 W es e := by
  unfold rO at h
  split at h
  · rename_i F hF
    split at h
    · rename_i s hr
      refine ⟨hs, F, hF, fun C _ hE hO _ K => ?_⟩
      have hK : wB ⟨E0, ah E0.ng es, nk es, kg e⟩ C (kg e) := ⟨K, hE.symm, hO.symm, rfl, pK E0.ng es⟩
      exact o9 K (stop := uaq) N _ s (by rw [hE, hO]; exact hr) (qai hK hE h)
    · cases h
  · cases h
end
end Go.Ev
end
