/- The law InquiryLong: part Ej. -/
import Derived.Test.YtcbeheaiblgpfaaGreatDoorQEi
set_option linter.unusedVariables false
set_option linter.unusedSimpArgs false
noncomputable section
namespace Go.Ev
section
variable {K : Kit} {C : Cx} {good : Nat → V → H → Bool}
theorem zQ {E : Env} {nt : Nat} : ∀ (l : List ResultVar) (q : Rg) (h : H) (k : List V → B), (ean E nt l).run q h k = true → ∃ vs, cz E (dm nt 0 q) h l = some vs ∧ k vs = true
 | [], q, h, k, hk => ⟨[], rfl, hk⟩
 | .tmp t :: l, q, h, k, hk => by
  have hk : (ean E nt l).run q h (fun r => k ((opd E nt (.tmp t)).get q :: r)) = true := hk
  obtain ⟨vs, h1, h2⟩ := zQ l q h _ hk
  rw [jr] at h2
  exact ⟨_, by rw [cz, h1]; rfl, h2⟩
 | .cell a t :: l, q, h, k, hk => by
  have hk : (haa E nt t (.tmp a)).run q h (fun v _ => (ean E nt l).run q h (fun r => k (v :: r))) = true := hk
  obtain ⟨v, h1, h2⟩ := gX t (.tmp a) q h _ hk
  obtain ⟨vs, h3, h4⟩ := zQ l q h _ h2
  refine ⟨_, ?_, h4⟩
  have h1 : loadT E t ((bg (dm nt 0 q) a).getD qg) h = some v := h1
  rw [cz, h1, h3]
theorem oan (l : List V) : aar l = oneOf l := by
 cases l with
 | nil => rfl
 | cons v l => cases l <;> rfl
theorem xQ {E : Env} {f : Nat} {q : Rg} {h : H} {k : V → B} (hk : (sau E f).run q h k = true) :
  ∃ fn vs, E.fn.get f = some fn ∧ cz E (dm (zl E f) 0 q) h fn.results.toList = some vs ∧ k (oneOf vs) = true := by
 unfold sau at hk
 split at hk
 ·rename_i fn hfn
  obtain ⟨vs, h1, h2⟩ := zQ _ q h _ hk
  rw [oan] at h2
  refine ⟨fn, vs, hfn, ?_, h2⟩
  rw [show zl E f = fn.ntmps from by unfold zl; rw [hfn]]
  exact h1
 ·cases hk
theorem pX {k : CallKind} {n d : B} (h : tar k n d = true) : (k = .normal ∧ n = true) ∨ (k = .deferred ∧ d = true) := by
 cases k <;> first | exact .inl ⟨rfl, h⟩ | exact .inr ⟨rfl, h⟩ | cases h
theorem dag {l : List Dd} (h : aas l = true) : l = [] := by
 cases l with
 | nil => rfl
 | cons d l => cases h
theorem jP {m : Md} (h : mac m = false) : m ≠ .run := by
 intro e; subst e; cases h
theorem nD {E : Env} {O : Orc} {s : S} (h : s.fr.mode ≠ .run) : uL E O s = jC E s.fr s.cs s.h := by
 unfold uL
 split
 ·rename_i e; exact absurd e h
 ·rfl
theorem gI (hK : kF C) {f : F} {cs : List F} {kk : List Dd → H → B} (hm : f.mode ≠ .run) (hkk : ∀ ds h, kk ds h = true → Ends C good ⟨{ f with defers := ds }, cs, h⟩) :
  ∀ ds h, bL ds h kk = true → Ends C good ⟨{ f with defers := ds }, cs, h⟩
 | [], h, hd => hkk _ _ hd
 | .call a b c :: ds, h, hd => hkk _ _ hd
 | .nilc :: ds, h, hd => hkk _ _ hd
 | .mark r :: ds, h, hd => by
  have hd : (match h.get r with | some (.deferred (some [])) => bL ds (h.put r (.deferred none)) kk | _ => false) = true := hd
  split at hd
  ·rename_i hg
   refine Ends.qi hK ?_
   rw [nD (by exact hm)]
   unfold jC
   simp only [hg]
   exact gI hK hm hkk ds _ hd
  ·cases hd
theorem kao (l : List Tk) : yaj l = vF (l.map Tk.it) := by
 cases l with
 | nil => rfl
 | cons t l =>
  show nac t.it = vF (t.it :: l.map Tk.it)
  cases t.it <;> rfl
theorem qap (hK : wB K C good) {go : Go} (hgo : rQ K C good go) : ∀ (cs : List Fr) (fr : Fr) (h : H), jK K.E cs → fau K.E fr → yV K go cs fr h = true →
  Ends C good ⟨om K.E fr, cs.map (om K.E), h⟩ := by
 intro cs
 induction cs with
 | nil =>
  intro fr h hcs hfr hk
  rw [yV] at hk
  dsimp only at hk
  cases hrun : mac fr.mode with
  | true => rw [hrun] at hk; cases hk
  | false =>
   rw [hrun, cond_false] at hk
   have hm := jP hrun
   refine gI (f := om K.E fr) hK.cx hm (fun ds h hd => ?_) fr.defers h hk
   unfold maI at hd
   split at hd
   ·refine Ends.qi hK.cx ?_
    rw [nD (by exact hm)]
    unfold jC
    simp only
    split at hd
    ·cases hd
    ·cases hd
    ·rename_i hmode
     obtain ⟨fn, vs, h1, h2, h3⟩ := xQ hd
     rw [show (om K.E fr).mode = .returning from hmode, show (om K.E fr).fn = fr.fn from rfl, ← hK.E, h1]
     simp only
     rw [show (om K.E fr).tm = dm (zl K.E fr.fn) 0 fr.q from rfl, h2]
     simp only
     split at h3
     ·rename_i hkind
      unfold bz
      rw [show ({ om K.E fr with defers := [] } : F).kind = .normal from hkind]
      show good fr.fn _ h = true
      rw [← hK.good]; exact h3
     ·cases h3
   ·cases hd
   ·rename_i fn captured args ds'
    split at hd
    ·rename_i f as hinv
     obtain ⟨fr', g1, _, g2⟩ := mH hgo (hcs := jK.cons (E := K.E) (c := { fr with defers := ds' }) ⟨fun e => absurd e hm, hfr.nt⟩ hcs) hd
     refine Ends.qi hK.cx ?_
     rw [nD (by exact hm)]
     unfold jC
     simp only
     rw [← hK.E, hinv]
     simp only
     rw [g1]
     exact g2
    ·cases hd
   ·cases hd
 | cons c rest ih =>
  intro fr h hcs hfr hk
  rw [yV] at hk
  dsimp only at hk
  cases hrun : mac fr.mode with
  | true => rw [hrun] at hk; cases hk
  | false =>
   rw [hrun, cond_false] at hk
   have hm := jP hrun
   have hc := hcs.head
   refine gI (f := om K.E fr) hK.cx hm (fun ds h hd => ?_) fr.defers h hk
   unfold maI at hd
   split at hd
   ·refine Ends.qi hK.cx ?_
    rw [nD (by exact hm)]
    unfold jC
    simp only
    split at hd
    ·cases hd
    ·rename_i chain hmode
     rw [show (om K.E fr).mode = .panicking chain from hmode, show (om K.E fr).fn = fr.fn from rfl, ← hK.E]
     simp only
     split at hd
     ·rename_i fn hfn
      rw [hfn]
      simp only [List.map_cons]
      split at hd
      ·rename_i older hcm
       have := ih { c with mode := .panicking (gy chain older) } h hcs.tail ⟨fun e => (by cases e), hc.nt⟩ hd
       unfold raise
       rw [show (om K.E c).mode = .panicking older from hcm]
       exact this
      ·rename_i hcm
       have := ih { c with mode := .panicking chain } h hcs.tail ⟨fun e => (by cases e), hc.nt⟩ hd
       unfold raise
       rw [show (om K.E c).mode = .returning from hcm]
       exact this
      ·rename_i hcm
       cases hdr : yaj c.todo with
       | true => rw [hdr] at hd; cases hd
       | false =>
        rw [hdr, cond_false] at hd
        have := ih { c with mode := .panicking chain } h hcs.tail ⟨fun e => (by cases e), hc.nt⟩ hd
        unfold raise
        rw [show (om K.E c).mode = .run from hcm]
        simp only
        rw [show vF (om K.E c).todo = false from by rw [← hdr, kao]; rfl, cond_false]
        exact this
     ·cases hd
    ·rename_i hmode
     obtain ⟨fn, vs, h1, h2, h3⟩ := xQ hd
     rw [show (om K.E fr).mode = .returning from hmode, show (om K.E fr).fn = fr.fn from rfl, ← hK.E, h1]
     simp only
     rw [show (om K.E fr).tm = dm (zl K.E fr.fn) 0 fr.q from rfl, h2]
     simp only
     split at h3
     ·rename_i hkind
      obtain ⟨c', rest', fr', e1, e2, e3, e4⟩ := yQ hgo hcs h3
      injection e1 with e1 e1'
      subst e1 e1'
      unfold bz
      rw [show ({ om K.E fr with defers := [] } : F).kind = .normal from hkind]
      simp only [List.map_cons]
      rw [show (om K.E c).mode = .run from e2]
      simp only
      rw [e3]
      exact e4
     ·rename_i hkind
      unfold bz
      rw [show ({ om K.E fr with defers := [] } : F).kind = .deferred from hkind]
      simp only [List.map_cons]
      cases hr : isRec c.mode with
      | true =>
       rw [hr, cond_true] at h3
       have := ih { c with mode := .returning } h hcs.tail ⟨fun e => (by cases e), hc.nt⟩ h3
       split
       ·exact this
       ·rename_i hno
        exfalso
        unfold isRec at hr
        split at hr
        ·rename_i e; exact hno _ _ e
        ·cases hr
      | false =>
       rw [hr, cond_false] at h3
       have := ih _ _ hcs.tail hc h3
       split
       ·rename_i e
        exfalso
        have e : c.mode = _ := e
        rw [e] at hr
        cases hr
       ·exact this
     ·cases h3
   ·cases hd
   ·rename_i fn captured args ds'
    split at hd
    ·rename_i f as hinv
     obtain ⟨fr', g1, _, g2⟩ := mH hgo (hcs := jK.cons (E := K.E) (c := { fr with defers := ds' }) ⟨fun e => absurd e hm, hfr.nt⟩ hcs) hd
     refine Ends.qi hK.cx ?_
     rw [nD (by exact hm)]
     unfold jC
     simp only
     rw [← hK.E, hinv]
     simp only
     rw [g1]
     exact g2
    ·cases hd
   ·cases hd
theorem uK (hK : wB K C good) {go : Go} (hgo : rQ K C good go) {fn : Nat} {jump : Option Code} {isRet : Bool} {q : Rg} {td : List Tk} {x : X} {h : H} (hfn : x.fn = fn) (hx : XOk K.E td x)
  (hj : isRet = true → jump = none ∨ jump = some .ret) (hk : dI K fn jump isRet q td x h go = true) : yt C good (fI (pq K.E q td x) (x.cs.map (om K.E)) h jump) := by
 obtain ⟨xfn, defers, kind, rnd, cs⟩ := x
 simp only at hfn
 subst hfn
 cases rnd with
 | none =>
  obtain ⟨h1, h2⟩ := ni hk
  have hgoal : ∀ (P : Prop), (Ends C good ⟨{ pq K.E q td ⟨xfn, defers, kind, none, cs⟩ with mode := .returning }, cs.map (om K.E), h⟩ → P) → (∀ s, Ends C good s → yt C good (.next s)) → P → P := fun _ _ _ p => p
  have key : Ends C good ⟨{ pq K.E q td ⟨xfn, defers, kind, none, cs⟩ with mode := .returning }, cs.map (om K.E), h⟩ := by
   have slow : yV K go cs ⟨xfn, q, td, defers, .returning, kind, none⟩ h = true → Ends C good ⟨{ pq K.E q td ⟨xfn, defers, kind, none, cs⟩ with mode := .returning }, cs.map (om K.E), h⟩ :=
    fun hs => qap hK hgo cs ⟨xfn, q, td, defers, .returning, kind, none⟩ h hx.cs ⟨fun e => (by cases e), hx.nt⟩ hs
   rcases xq h2 with ⟨h3, h4⟩ | ⟨_, h4⟩
   ·have hd := dag h3
    subst hd
    obtain ⟨f, vs, e1, e2, e3⟩ := xQ h4
    rcases pX e3 with ⟨hkd, e4⟩ | ⟨_, e4⟩
    ·subst hkd
     refine Ends.qi hK.cx ?_
     rw [nD (by simp)]
     unfold jC pq
     simp only
     rw [← hK.E, e1]
     simp only
     rw [e2]
     simp only
     unfold bz
     simp only
     cases cs with
     | nil =>
      show good xfn _ h = true
      rw [← hK.good]; exact e4
     | cons c rest =>
      obtain ⟨c', rest', fr', g1, g2, g3, g4⟩ := yQ hgo hx.cs e4
      injection g1 with g1 g1'
      subst g1 g1'
      simp only [List.map_cons]
      rw [show (om K.E c).mode = .run from g2]
      simp only
      rw [g3]
      exact g4
    ·exact slow e4
   ·exact slow h4
  unfold fI
  rcases hj h1 with rfl | rfl
  ·exact key
  ·exact key
 | some l =>
  have hk : lal K.E l jump kind cs h go = true := hk
  obtain ⟨o, h1, h2⟩ := zX hk
  cases o with
  | loop r =>
   rcases pX h2 with ⟨hkd, h3⟩ | ⟨_, h3⟩
   ·subst hkd
    have h4 := jH h3
    obtain ⟨c', rest', fr', g1, g2, g3, g4⟩ := yQ hgo hx.cs h4
    have g1 : cs = c' :: rest' := g1
    subst g1
    unfold fI pq
    simp only [h1, List.map_cons]
    unfold bz
    simp only
    rw [show (om K.E c').mode = .run from g2]
    simp only
    rw [g3]
    exact g4
   ·cases h3
  | _ => cases h2
theorem lah {fn : Nat} {t : Tk} {res : aT} {q : Rg} {k : List Tk} {x : X} {h : H} {go : Go} (hgo : rQ K C good go) (ht : t.fn = fn) (hfn : x.fn = fn) (hx : XOk K.E k x)
  (hres : iZ K C good fn t.it res) : ∀ (l : List (V × H)), mG (fun v h' => @Bool.rec (fun _ => B) false (res v q k x h' go) (Nat.ble h.next h'.next)) l = true →
  ∃ ss, jM (pq K.E q (t :: k) x) (x.cs.map (om K.E)) h.next l = some ss ∧ ∀ s ∈ ss, Ends C good s
 | [], _ => ⟨[], rfl, fun s hs => by cases hs⟩
 | (v, h') :: l, hk => by
  have hk : (bif @Bool.rec (fun _ => B) false (res v q k x h' go) (Nat.ble h.next h'.next) then mG (fun v h' => @Bool.rec (fun _ => B) false (res v q k x h' go) (Nat.ble h.next h'.next)) l else false) = true := hk
  obtain ⟨h1, h2⟩ := vE hk
  obtain ⟨h3, h4⟩ := ni h1
  obtain ⟨ss, h5, h6⟩ := lah hgo ht hfn hx hres l h2
  obtain ⟨fr, g1, g2⟩ := hres v q k x h' go hgo hfn hx h4
  obtain ⟨tf, it⟩ := t
  simp only at ht
  subst ht
  refine ⟨⟨fr, x.cs.map (om K.E), h'⟩ :: ss, ?_, fun s hs => ?_⟩
  ·rw [jM, g1, h5, h3]; rfl
  ·rcases List.mem_cons.1 hs with rfl | hs
   ·exact g2
   ·exact h6 s hs
theorem vS (hK : wB K C good) {fn : Nat} {t : Tk} {res : aT} {r : Res} {q : Rg} {k : List Tk} {x : X} {h : H} {go : Go} (hgo : rQ K C good go) (ht : t.fn = fn) (hfn : x.fn = fn) (hx : XOk K.E k x)
  (hres : iZ K C good fn t.it res) (hk : wE K fn t res r q k x h go = true) : yt C good (gq C.E C.O (pq K.E q (t :: k) x) (x.cs.map (om K.E)) r h) := by
 have halts := fun l => lah (l := l) (h := h) (q := q) hgo ht hfn hx hres
 obtain ⟨tf, it⟩ := t
 simp only at ht
 subst ht
 have hpush : jK K.E (zC x tf q (⟨tf, it⟩ :: k)) := jK.cons ⟨fun _ => hfn ▸ (hx.cons it).td, hfn ▸ hx.nt⟩ hx.cs
 have hmap : (zC x tf q (⟨tf, it⟩ :: k)).map (om K.E) = pq K.E q (⟨tf, it⟩ :: k) x :: x.cs.map (om K.E) := by subst hfn; rfl
 unfold wE at hk
 split at hk
 ·rename_i v h'
  obtain ⟨h1, h2⟩ := ni hk
  obtain ⟨fr, g1, g2⟩ := hres v q k x h' go hgo hfn hx h2
  show yt C good (pE h.next h' (dz (finish _ v) _ h' 101))
  unfold pE
  rw [h1, cond_true, g1]
  exact g2
 ·rename_i h'
  obtain ⟨h1, h2⟩ := ni hk
  obtain ⟨fr, g1, g2⟩ := hres qg q k x h' go hgo hfn hx h2
  show yt C good (pE h.next h' (dz (finish _ qg) _ h' 102))
  unfold pE
  rw [h1, cond_true, g1]
  exact g2
 ·rename_i f args
  have enter : C.O f args h = none → ig K.E f args .normal (zC x tf q (⟨tf, it⟩ :: k)) h go = true → yt C good (gq C.E C.O (pq K.E q (⟨tf, it⟩ :: k) x) (x.cs.map (om K.E)) (.enter f args) h) := by
   intro hO he
   obtain ⟨fr, g1, _, g2⟩ := mH hgo hpush he
   rw [hmap] at g2
   unfold gq
   simp only
   rw [hO, ← hK.E]
   simp only
   rw [g1]
   exact g2
  split at hk
  ·rename_i hon
   split at hk
   ·rename_i l hl
    rw [hK.O] at hl
    obtain ⟨ss, g1, g2⟩ := halts l hk
    unfold gq
    simp only
    rw [hl]
    simp only
    unfold gU
    rw [g1]
    exact g2
   ·rename_i hl
    rw [hK.O] at hl
    exact enter hl hk
  ·rename_i hon
   exact enter (by rw [← hK.O]; exact hK.on f hon args h) hk
 ·rename_i d
  split at hk
  ·rename_i hrnd
   obtain ⟨fr, g1, g2⟩ := hres qg q k { x with defers := d :: x.defers } h go hgo hfn ⟨hx.td, hx.nt, hx.cs⟩ hk
   obtain ⟨xfn, xd, xk, xr, xcs⟩ := x
   have hrnd : xr = none := hrnd
   subst hrnd
   unfold gq yac pq
   simp only
   unfold pq at g1
   simp only at g1
   rw [g1]
   exact g2
  ·cases hk
 ·show yt C good (nO _ _ h)
  unfold nO
  split at hk
  ·cases hk
  ·rename_i hrnd
   rw [show (pq K.E q (⟨tf, it⟩ :: k) x).rnd = none from hrnd]
   simp only
   split at hk
   ·rename_i hkind
    obtain ⟨fr, g1, g2⟩ := hres .nilif q k x h go hgo hfn hx hk
    rw [show (pq K.E q (⟨tf, it⟩ :: k) x).kind = .normal from hkind]
    simp only
    rw [g1]
    exact g2
   ·rename_i hkind
    rw [show (pq K.E q (⟨tf, it⟩ :: k) x).kind = .deferred from hkind]
    simp only
    split at hk
    ·rename_i c rest hcs
     have hcok := hx.cs
     rw [hcs] at hcok
     split at hk
     ·rename_i v older hmode
      obtain ⟨fr, g1, g2⟩ := hres v q k { x with cs := { c with mode := .panicking ((v, true) :: older) } :: rest } h go hgo hfn ⟨hx.td, hx.nt, jK.cons ⟨fun e => (by cases e), hcok.head.nt⟩ hcok.tail⟩ hk
      rw [hcs]
      simp only [List.map_cons]
      rw [show (om K.E c).mode = .panicking ((v, false) :: older) from hmode]
      simp only
      have g1 : finish (pq K.E q (⟨tf, it⟩ :: k) x) v = some fr := g1
      rw [g1]
      exact g2
     ·rename_i hno
      obtain ⟨fr, g1, g2⟩ := hres .nilif q k x h go hgo hfn hx hk
      rw [hcs]
      rw [hcs] at g2
      simp only [List.map_cons]
      split
      ·rename_i v older e
       exact absurd e (hno v older)
      ·rw [g1]
       exact g2
    ·cases hk
   ·cases hk
 ·rename_i v h'
  cases hd : nac it with
  | true => rw [hd] at hk; cases hk
  | false =>
   rw [hd, cond_false] at hk
   obtain ⟨h1, h2⟩ := ni hk
   have := qap hK hgo x.cs ⟨tf, q, ⟨tf, it⟩ :: k, x.defers, .panicking [(v, false)], x.kind, x.rnd⟩ h' hx.cs ⟨fun e => (by cases e), hfn ▸ hx.nt⟩ h2
   show yt C good (pE h.next h' (dz (raise _ [(v, false)]) _ h' 109))
   unfold pE
   rw [h1, cond_true]
   unfold raise pq
   simp only
   rw [show vF (List.map Tk.it (⟨tf, it⟩ :: k)) = false from by rw [← hd]; cases it <;> rfl, cond_false]
   subst hfn
   exact this
 ·rename_i l f tm a b
  split at hk
  rename_i td ok nt hent
  obtain ⟨h1, h2⟩ := ni hk
  obtain ⟨h3, h4⟩ := ni h2
  have hok : (vag K.E f).ok = true := by rw [hent]; exact h1
  obtain ⟨fn', b', e1, e2, e3, e4, e5⟩ := zK hok
  rw [e4] at hent
  injection hent with _ _ hnt
  subst hnt
  have h3 := Nat.eq_of_beq_eq_true h3
  rw [lav] at h3
  obtain ⟨q', g1, g2⟩ := kaf (n := fn'.ntmps) (by omega) e3 h4
  have := hgo q' [⟨f, .code a⟩, ⟨f, .beginRound⟩, ⟨f, .code b⟩] ⟨f, [], .normal, some l, zC x tf q (⟨tf, it⟩ :: k)⟩ h ⟨fun u hu => (by
   rcases List.mem_cons.1 hu with rfl | hu; rfl
   rcases List.mem_cons.1 hu with rfl | hu; rfl
   rcases List.mem_cons.1 hu with rfl | hu; rfl
   cases hu), by rw [e5]; exact e3, hpush⟩ g1
  rw [show (zC x tf q (⟨tf, it⟩ :: k)).map (om K.E) = _ from hmap] at this
  unfold pq at this
  simp only [List.map_cons, List.map_nil] at this
  rw [e5, g2, ll, show fn'.ntmps - (tm.length + 0) = 0 from by omega, dH, pz, List.append_nil] at this
  exact this
 ·rename_i l
  obtain ⟨ss, g1, g2⟩ := halts l hk
  unfold gq
  simp only
  unfold gU
  rw [g1]
  exact g2
 ·cases hk
end
end Go.Ev
end
noncomputable section
namespace Go.Ev
section
variable {K : Kit} {C : Cx} {good : Nat → V → H → Bool}
theorem uJ {α : Type} (l : List α) : gy l [] = l := by rw [pz, List.append_nil]
theorem maw (hK : wB K C good) {fn : Nat} {t : Tk} {res : aT} {r : Res} {v : V} {h' : H} {q : Rg} {k : List Tk} {x : X} {h : H} {go : Go} (hgo : rQ K C good go) (ht : t.fn = fn) (hfn : x.fn = fn) (hx : XOk K.E k x)
  (hres : iZ K C good fn t.it res) (hr : kax r v h') (hle : Nat.ble h.next h'.next = true) (hk : res v q k x h' go = true) : yt C good (gq C.E C.O (pq K.E q (t :: k) x) (x.cs.map (om K.E)) r h) := by
 obtain ⟨fr, g1, g2⟩ := hres v q k x h' go hgo hfn hx hk
 obtain ⟨tf, it⟩ := t
 simp only at ht
 subst ht
 rcases hr with rfl | ⟨rfl, rfl⟩
 ·unfold gq
  simp only
  unfold pE
  rw [hle, cond_true, g1]
  exact g2
 ·unfold gq
  simp only
  unfold pE
  rw [hle, cond_true, g1]
  exact g2
theorem yas (hK : wB K C good) {fn : Nat} {t : Tk} {res : aT} {c : Call} {q : Rg} {k : List Tk} {x : X} {h : H} {go : Go} (hgo : rQ K C good go) (ht : t.fn = fn) (hfn : x.fn = fn) (hx : XOk K.E k x)
  (hres : iZ K C good fn t.it res) (hk : (zas K fn t res c).run q k x h go = true) : yt C good (gq C.E C.O (pq K.E q (t :: k) x) (x.cs.map (om K.E)) (dab K.E (dm (zl K.E fn) 0 q) c h) h) := by
 have happ := fun r => vS (r := r) (h := h) (q := q) hK hgo ht hfn hx hres
 have hent : ∀ (f : Nat) (args : List V), (∃ fn, K.E.fn.get f = some fn) → K.on f = false → ig K.E f args .normal (zC x fn q (t :: k)) h go = true →
   yt C good (gq C.E C.O (pq K.E q (t :: k) x) (x.cs.map (om K.E)) (.enter f args) h) := by
  intro f args _ hon he
  exact happ (.enter f args) (by unfold wE; simp only; rw [hon]; exact he)
 have hentFn : ∀ (f : Nat) (args : List V), ig K.E f args .normal (zC x fn q (t :: k)) h go = true → ∃ fn, K.E.fn.get f = some fn := by
  intro f args he
  obtain ⟨h1, _⟩ := ni he
  obtain ⟨g, _, e1, _⟩ := zK h1
  exact ⟨g, e1⟩
 obtain ⟨callee, args, ats⟩ := c
 unfold zas at hk
 unfold dab
 split at hk
 ·rename_i f hf
  have hf : callee = .value (.func f) := hf
  subst hf
  simp only [ev, vJ]
  split at hk
  ·rename_i n e as hext has
   have hv := uO K.E (zl K.E fn) q args.toList
   rw [has] at hv
   have hv : as q = evs K.E (dm (zl K.E fn) 0 q) args.toList := hv
   simp only [rq, hext]
   rw [uJ, ← hv]
   exact happ _ hk
  ·rename_i as hext hon has
   have hv := uO K.E (zl K.E fn) q args.toList
   rw [has] at hv
   have hv : as q = evs K.E (dm (zl K.E fn) 0 q) args.toList := hv
   rw [← hv]
   exact happ _ hk
  ·rename_i as hext hon has
   have hv := uO K.E (zl K.E fn) q args.toList
   rw [has] at hv
   have hv : as q = evs K.E (dm (zl K.E fn) 0 q) args.toList := hv
   obtain ⟨g, hg⟩ := hentFn _ _ hk
   simp only [rq, hext, hg]
   rw [uJ, ← hv]
   exact hent _ _ ⟨g, hg⟩ hon hk
 ·rename_i f hno hf
  have hf : callee = .value f := hf
  subst hf
  simp only
  split at hk
  rename_i g as hg has
  have hv := uO K.E (zl K.E fn) q args.toList
  rw [has] at hv
  have hv : as q = evs K.E (dm (zl K.E fn) 0 q) args.toList := hv
  have hw := jr K.E (zl K.E fn) q f
  rw [hg] at hw
  have hw : g q = ev K.E (dm (zl K.E fn) 0 q) f := hw
  obtain ⟨fn', first, captured, h1, h2⟩ := cai hk
  rw [← hw, h1]
  simp only
  rw [← hv]
  cases fn' with
  | func f' =>
   rcases xq h2 with ⟨_, h3⟩ | ⟨hx', h3⟩
   ·exact happ _ h3
   ·rcases xq h3 with ⟨_, h4⟩ | ⟨hon, h4⟩
    ·exact happ _ h4
    ·obtain ⟨g', hg'⟩ := hentFn _ _ h4
     unfold rq
     simp only
     have : K.E.ext.get f' = none := by
      unfold xax at hx'
      split at hx'
      ·cases hx'
      ·assumption
     rw [this, hg']
     exact hent _ _ ⟨g', hg'⟩ hon h4
  | yield l => exact happ _ h2
  | _ => cases h2
 ·cases hk
theorem jaf (hK : wB K C good) {fn : Nat} {t : Tk} {res : aT} {o : Op} {put : Rg → V → (Rg → B) → B} {R : vah} {q : Rg} {k : List Tk} {x : X} {h : H} {go : Go} (hgo : rQ K C good go) (ht : t.fn = fn) (hfn : x.fn = fn)
  (hx : XOk K.E k x) (hres : iZ K C good fn t.it res) (hr : res = fun v q k x h go => put q v (fun q' => R q' k x h go)) (hk : (daa K fn t o put R res).run q k x h go = true) :
  yt C good (gq C.E C.O (pq K.E q (t :: k) x) (x.cs.map (om K.E)) (aop K.E (dm (zl K.E fn) 0 q) o h) h) := by
 have slow : ∀ p, (pab K fn t res p).run q k x h go = true → yt C good (gq C.E C.O (pq K.E q (t :: k) x) (x.cs.map (om K.E)) (aop K.E (dm (zl K.E fn) 0 q) p h) h) := by
  intro p hp
  have hp : wE K fn t res ((z8 K.E (zl K.E fn) p).run q h) q k x h go = true := hp
  rw [qae] at hp
  exact vS hK hgo ht hfn hx hres hp
 unfold daa at hk
 split at hk
 ·have hk : (opC K.E (zl K.E fn) o).run q h (fun v h' => put q v (fun q' => R q' k x h' go)) = true := hk
  obtain ⟨v, h', g1, g2, g3⟩ := aac o q h _ hk
  exact maw hK hgo ht hfn hx hres g1 g2 (by rw [hr]; exact g3)
 ·split at hk
  ·rename_i c
   split at hk
   ·exact yas hK hgo ht hfn hx hres hk
   ·exact slow _ hk
  ·exact slow _ hk
theorem lae {v : V} {w : Bool} {t e : B} (h : oap v w t e = true) : (∃ b, v = .bool b ∧ ((b == w) = true ∧ t = true ∨ (b == w) = false ∧ e = true)) ∨ ((∀ b, v ≠ .bool b) ∧ v ≠ .bad ∧ e = true) := by
 cases v with
 | bool b =>
  refine .inl ⟨b, rfl, ?_⟩
  rcases xq h with ⟨h1, h2⟩ | ⟨h1, h2⟩
  ·exact .inl ⟨(by cases b <;> cases w <;> first | rfl | cases h1), h2⟩
  ·exact .inr ⟨(by cases b <;> cases w <;> first | rfl | cases h1), h2⟩
 | bad => cases h
 | _ => exact .inr ⟨fun b e => (by cases e), fun e => (by cases e), h⟩
theorem yK {all : List Oper} {o : Oper} {nt : Nat} {act skip : vah} {q : Rg} {k : List Tk} {x : X} {h : H} {go : Go} (hk : (fG all o nt act skip).run q k x h go = true) :
  (zt all (dm nt 0 q) o = some true ∧ act q k x h go = true) ∨ (zt all (dm nt 0 q) o = some false ∧ skip q k x h go = true) := by
 unfold fG at hk
 unfold zt
 split at hk
 ·rename_i hg
  rw [hg]
  exact .inl ⟨rfl, hk⟩
 ·rename_i j want hg
  rw [hg]
  simp only
  split at hk
  ·rename_i d hd
   rw [hd]
   simp only
   split at hk
   ·rename_i g hb hgg
    rw [au, decide_eq_true_eq] at hb
    have hv : g q = zD q d := by unfold zD; rw [hgg]
    rw [vC, if_pos hb, Nat.zero_add, ← hv]
    rcases lae hk with ⟨b, h1, ⟨h2, h3⟩ | ⟨h2, h3⟩⟩ | ⟨h1, h2, h3⟩
    ·rw [h1]; simp only; rw [h2]; exact .inl ⟨rfl, h3⟩
    ·rw [h1]; simp only; rw [h2]; exact .inr ⟨rfl, h3⟩
    ·refine .inr ⟨?_, h3⟩
     split
     ·rename_i b e; injection e with e; exact absurd e (h1 b)
     ·rename_i e; injection e with e; exact absurd e h2
     ·rfl
   ·cases hk
  ·cases hk
theorem zh {E : Env} {O : Orc} {s : S} (h : s.fr.mode = .run) : uL E O s = aaJ E O s.fr s.cs s.h := by
 unfold uL
 rw [h]
theorem uM {fn : Nat} {it : It} {d : Option Nat} {it' : It} {R : vah} (hR : uah K C good fn it' R)
  (hfin : ∀ (f : F) (v : V) k, f.todo = it :: k → finish f v = some { f with tm := zo f.tm d v, todo := it' :: k }) :
  iZ K C good fn it (fun v q k x h go => (oJ fn K.E d).set q v (fun q' => R q' k x h go)) := by
 intro v q k x h go hgo hfn hx hk
 obtain ⟨q', h1, h2⟩ := pai (by rw [← hfn]; exact hx.nt) hk
 have := hR q' k x h go hgo hfn hx h1
 refine ⟨_, hfin _ v (k.map Tk.it) rfl, ?_⟩
 unfold pq at this ⊢
 rw [hfn, h2] at this
 rw [hfn]
 exact this
theorem uab (hK : wB K C good) (fn : Nat) (all : List Oper) : ∀ rest, uah K C good fn (.reg all rest) (kai K fn all rest).run
 | [] => by
  intro q k x h go hgo hfn hx hk
  have := hgo q k x h hx hk
  refine Ends.qi hK.cx ?_
  rw [zh rfl]
  exact this
 | o :: rest => by
  have hR := uab hK fn all rest
  have hres := uM (d := o.dst) (it := .reg all (o :: rest)) hR (fun f v k hf => by unfold finish; rw [hf])
  intro q k x h go hgo hfn hx hk
  have hk : (fG all o (zl K.E fn) (daa K fn ⟨fn, .reg all (o :: rest)⟩ o.op (oJ fn K.E o.dst).set (kai K fn all rest).run (fun v q k x h go => (oJ fn K.E o.dst).set q v (fun q' => (kai K fn all rest).run q' k x h go))).run
   (fun q k x h go => (oJ fn K.E o.dst).set q qg (fun q' => (kai K fn all rest).run q' k x h go))).run q k x h go = true := hk
  refine Ends.qi hK.cx ?_
  rw [zh rfl]
  show yt C good (nW C.E C.O (pq K.E q (⟨fn, .reg all (o :: rest)⟩ :: k) x) (k.map Tk.it) (x.cs.map (om K.E)) h all (o :: rest))
  unfold nW
  have htm : (pq K.E q (⟨fn, .reg all (o :: rest)⟩ :: k) x).tm = dm (zl K.E fn) 0 q := by rw [← hfn]; rfl
  simp only
  rw [htm]
  rcases yK hk with ⟨h1, h2⟩ | ⟨h1, h2⟩
  ·rw [h1, ← hK.E]
   simp only
   have := jaf (fn := fn) (t := ⟨fn, .reg all (o :: rest)⟩) hK hgo rfl hfn hx hres rfl h2
   rw [← hK.E] at this
   exact this
  ·rw [h1]
   simp only
   obtain ⟨fr, g1, g2⟩ := hres qg q k x h go hgo hfn hx h2
   rw [g1]
   exact g2
theorem oal (a b : Int) : caw a b = ieq a b := by cases a <;> cases b <;> rfl
theorem qam {u v : V} {c : B} (h : iaI u v c = true) : veq u v = true ∧ c = true := by
 unfold iaI at h
 rcases xB h with ⟨k, m, rfl, h1⟩ | h1
 ·rcases xB h1 with ⟨k', n, rfl, h2⟩ | h2
  ·obtain ⟨h3, h4⟩ := ni h2
   obtain ⟨h5, h6⟩ := ni h4
   rw [oal] at h5
   exact ⟨by unfold veq; rw [h3, h5]; rfl, h6⟩
  ·cases h2
 ·exact ni h1
structure NS (r : Res) : Prop where
 no : ∀ h', r ≠ .skip h'
theorem uz (v : V) (h : H) : NS (.val v h) := ⟨fun _ e => by cases e⟩
theorem sw (n : Nat) : NS (.fail n) := ⟨fun _ e => by cases e⟩
theorem fE (o : Option V) (h : H) (n : Nat) : NS (ofO o h n) := by cases o <;> first | exact uz .. | exact sw _
theorem vO {b : Bool} {x y : Res} (hx : NS x) (hy : NS y) : NS (cond b x y) := by cases b <;> assumption
theorem wai {E : Env} {tm : List V} {o : Op} {h : H} (hq : (qx E o || gp o) = true) : NS (aop E tm o h) := by
 cases o with
 | move x => exact uz ..
 | assign x => exact uz ..
 | pick c a b => show NS (iU E tm c a b h); unfold iU; split <;> first | exact uz .. | exact sw _
 | alloc t => show NS (fF E t h); unfold fF; split <;> first | exact uz .. | exact sw _
 | box t x => show NS (eae E tm t x h); unfold eae; split <;> first | exact uz .. | exact sw _
 | build t ps => exact fE ..
 | buildSlice t n ps => show NS (uq E tm t n ps h); unfold uq; split <;> first | exact uz .. | exact sw _
 | load t a => exact fE ..
 | nilCheck x => show NS (dw E tm x h); unfold dw; split <;> first | exact uz .. | exact sw _
 | binOp op t x y u => show NS (zS E tm op t x y h); unfold zS; split <;> repeat' first | exact uz .. | exact sw _ | apply vO
 | unOp op t x => exact fE ..
 | convert s d x =>
  show NS (iB E tm s d x h)
  unfold iB fQ
  repeat' first | exact uz .. | exact sw _ | exact fE .. | apply vO | split
 | makeInterface t x => show NS (bn E tm t x h); unfold bn; repeat' first | exact uz .. | exact sw _ | split
 | makeFunc fn a b => show NS (zy E tm fn a b h); unfold zy; repeat' first | exact uz .. | exact sw _ | split
 | slice t x l u m => show NS (nI E tm t x l u m h); unfold nI; repeat' first | exact uz .. | exact sw _ | apply vO | split
 | fieldAddr s x f => exact fE ..
 | field s x f => exact fE ..
 | indexAddr t x i => exact fE ..
 | index t x i => exact fE ..
 | lookup t x i ok => show NS (mD E tm t x i ok h); unfold mD; repeat' first | exact uz .. | exact sw _ | apply vO | split
 | typeAssert x t u ok => show NS (nu E tm x u ok h); unfold nu; repeat' first | exact uz .. | exact sw _ | apply vO | split
 | extract t i => show NS (kz E tm t i h); unfold kz; split <;> first | exact fE .. | exact sw _
 | call c =>
  obtain ⟨callee, args, ats⟩ := c
  cases callee with
  | builtin b =>
   show NS (eF E b ats.toList (evs E tm args.toList) h)
   cases b <;> first | (cases hq; done) | skip
   all_goals
    unfold eF
    split <;> first | exact fE .. | exact sw _ | (rename_i e; cases e; done) | skip
   all_goals first | exact fE .. | (exfalso; simp_all; done) | skip
  | _ => cases hq
 | _ => cases hq
end
end Go.Ev
end
noncomputable section
namespace Go.Ev
section
variable {K : Kit} {C : Cx} {good : Nat → V → H → Bool}
theorem zao {E : Env} {nt : Nat} {all : List Oper} {i : Nat} {q : Rg} {h : H} {c : B} (hk : (vad E nt all i).run q h c = true) : qC E all (dm nt 0 q) h i = true ∧ c = true := by
 unfold vad at hk
 split at hk
 ·rename_i o ho
  split at hk
  ·rename_i d hg hf hq hd
   split at hk
   ·rename_i f g hb hof hgg
    rw [au, decide_eq_true_eq] at hb
    have hok := aac (E := E) (nt := nt) o.op q h
    rw [hof] at hok
    obtain ⟨u, h', g1, g2, g3⟩ := hok _ hk
    obtain ⟨h1, h2⟩ := qam g3
    refine ⟨?_, h2⟩
    unfold qC zt
    rw [ho]
    simp only
    rw [hg]
    simp only
    rcases g1 with g1 | ⟨g1, _⟩
    ·rw [g1]
     simp only
     rw [hd]
     simp only
     rw [vC, if_pos hb, Nat.zero_add]
     simp only
     rw [hf, cond_false]
     have : g q = zD q d := by unfold zD; rw [hgg]
     rw [← this]; exact h1
    ·exact absurd g1 ((wai (by rw [hq]; rfl)).no h')
   ·cases hk
  ·exact ni hk
 ·cases hk
theorem qN {E : Env} {nt : Nat} {all : List Oper} {q : Rg} {h : H} {c : B} : ∀ (l : List Nat), (mI E nt all l).run q h c = true → ku E all (dm nt 0 q) h l = true ∧ c = true
 | [], hk => ⟨rfl, hk⟩
 | i :: l, hk => by
  have hk : (vad E nt all i).run q h ((mI E nt all l).run q h c) = true := hk
  obtain ⟨h1, h2⟩ := zao hk
  obtain ⟨h3, h4⟩ := qN l h2
  exact ⟨by rw [ku, h1, cond_true]; exact h3, h4⟩
theorem dQ (hK : wB K C good) (fn : Nat) (all : List Oper) (ms : List Nat) : ∀ plan pend, uah K C good fn (.dreg all ms pend plan) (oH K fn all ms plan pend).run
 | [], pend => by
  intro q k x h go hgo hfn hx hk
  have hk : (mI K.E (zl K.E fn) all pend).run q h (go q k x h) = true := hk
  obtain ⟨h1, h2⟩ := qN pend hk
  have := hgo q k x h hx h2
  refine Ends.qi hK.cx ?_
  rw [zh rfl]
  show yt C good (yJ C.E C.O (pq K.E q (⟨fn, .dreg all ms pend []⟩ :: k) x) (k.map Tk.it) (x.cs.map (om K.E)) h all pend [])
  unfold yJ
  have htm : (pq K.E q (⟨fn, .dreg all ms pend []⟩ :: k) x).tm = dm (zl K.E fn) 0 q := by rw [← hfn]; rfl
  simp only
  rw [htm, ← hK.E, h1, cond_true]
  exact this
 | (i, c) :: plan, pend => by
  intro q k x h go hgo hfn hx hk
  have htm : (pq K.E q (⟨fn, .dreg all ms pend ((i, c) :: plan)⟩ :: k) x).tm = dm (zl K.E fn) 0 q := by rw [← hfn]; rfl
  refine Ends.qi hK.cx ?_
  rw [zh rfl]
  show yt C good (yJ C.E C.O (pq K.E q (⟨fn, .dreg all ms pend ((i, c) :: plan)⟩ :: k) x) (k.map Tk.it) (x.cs.map (om K.E)) h all pend ((i, c) :: plan))
  unfold yJ
  simp only
  rw [htm, ← hK.E]
  rw [oH] at hk
  cases ho : bg all i with
  | none => rw [ho] at hk; cases hk
  | some o =>
   rw [ho] at hk
   simp only at hk ⊢
   have hdst : zk all i = o.dst := by unfold zk; rw [ho]
   cases hc : Nat.beq c 2 with
   | true =>
    rw [hc] at hk
    simp only at hk
    have hR := dQ hK fn all ms plan (uo ((bg ms i).getD 0) pend)
    have hres := uM (d := o.dst) (it := .dreg all ms pend ((i, c) :: plan)) hR (fun f v k hf => by unfold finish; rw [hf]; simp only; rw [hdst, hc]; rfl)
    have hk : (mI K.E (zl K.E fn) all pend).run q h ((fG all o (zl K.E fn) (daa K fn ⟨fn, .dreg all ms pend ((i, c) :: plan)⟩ o.op (oJ fn K.E o.dst).set (oH K fn all ms plan (uo ((bg ms i).getD 0) pend)).run
     (fun v q k x h go => (oJ fn K.E o.dst).set q v (fun q' => (oH K fn all ms plan (uo ((bg ms i).getD 0) pend)).run q' k x h go))).run
     (fun q k x h go => (oJ fn K.E o.dst).set q qg (fun q' => (oH K fn all ms plan (uo ((bg ms i).getD 0) pend)).run q' k x h go))).run q k x h go) = true := hk
    obtain ⟨h1, h2⟩ := qN pend hk
    rw [cond_true, h1, cond_true]
    rcases yK h2 with ⟨h3, h4⟩ | ⟨h3, h4⟩
    ·rw [h3]
     simp only
     have := jaf (fn := fn) (t := ⟨fn, .dreg all ms pend ((i, c) :: plan)⟩) hK hgo rfl hfn hx hres rfl h4
     rw [← hK.E] at this
     exact this
    ·rw [h3]
     simp only
     obtain ⟨fr, g1, g2⟩ := hres qg q k x h go hgo hfn hx h4
     rw [g1]
     exact g2
   | false =>
    rw [hc] at hk
    simp only at hk
    have hR := dQ hK fn all ms plan (i :: pend)
    have hres := uM (d := o.dst) (it := .dreg all ms pend ((i, c) :: plan)) hR (fun f v k hf => by unfold finish; rw [hf]; simp only; rw [hdst, hc]; rfl)
    rw [cond_false]
    cases hq : (qx K.E o.op || gp o.op) with
    | false => rw [hq] at hk; cases hk
    | true =>
     rw [hq] at hk
     cases h1c : Nat.beq c 1 with
     | true =>
      rw [h1c] at hk
      simp only at hk
      have hk : (fG all o (zl K.E fn) (fun q k x h go => (opC K.E (zl K.E fn) o.op).run q h (fun v h' => (oJ fn K.E o.dst).set q v (fun q' => (oH K fn all ms plan (i :: pend)).run q' k x h' go)))
       (fun q k x h go => (oJ fn K.E o.dst).set q qg (fun q' => (oH K fn all ms plan (i :: pend)).run q' k x h go))).run q k x h go = true := hk
      rcases yK hk with ⟨h3, h4⟩ | ⟨h3, h4⟩
      ·rw [h3]
       simp only
       obtain ⟨v, h', g1, g2, g3⟩ := aac o.op q h _ h4
       rcases g1 with g1 | ⟨g1, _⟩
       ·rw [g1]
        simp only
        rw [cond_true]
        obtain ⟨fr, g4, g5⟩ := hres v q k x h' go hgo hfn hx g3
        rw [g4]
        exact g5
       ·exact absurd g1 ((wai hq).no h')
      ·rw [h3]
       simp only
       obtain ⟨fr, g1, g2⟩ := hres qg q k x h go hgo hfn hx h4
       rw [g1]
       exact g2
     | false =>
      rw [h1c] at hk
      simp only at hk
      have hk : (fG all o (zl K.E fn) (fun q k x h go => (opC K.E (zl K.E fn) o.op).run q h (fun v _ => (oJ fn K.E o.dst).set q v (fun q' => (oH K fn all ms plan (i :: pend)).run q' k x h go)))
       (fun q k x h go => (oJ fn K.E o.dst).set q qg (fun q' => (oH K fn all ms plan (i :: pend)).run q' k x h go))).run q k x h go = true := hk
      rcases yK hk with ⟨h3, h4⟩ | ⟨h3, h4⟩
      ·rw [h3]
       simp only
       obtain ⟨v, h', g1, g2, g3⟩ := aac o.op q h _ h4
       rcases g1 with g1 | ⟨g1, _⟩
       ·rw [g1]
        simp only
        rw [cond_false]
        obtain ⟨fr, g4, g5⟩ := hres v q k x h go hgo hfn hx g3
        rw [g4]
        exact g5
       ·exact absurd g1 ((wai hq).no h')
      ·rw [h3]
       simp only
       obtain ⟨fr, g1, g2⟩ := hres qg q k x h go hgo hfn hx h4
       rw [g1]
       exact g2
theorem aat (t : Tk) (id : Nat) : Nat.beq (xaa t) (id + 1) = (match t.it with | .inBlock j => Nat.beq j id | _ => false) := by
 obtain ⟨tf, it⟩ := t
 cases it <;> rfl
theorem iY {id : Nat} {e : B} {kk : List Tk → B} : ∀ (l : List Tk), wal xaa (id + 1) l e kk = true → (∃ k', uE id (l.map Tk.it) = some (k'.map Tk.it) ∧ kk k' = true ∧ ∀ t ∈ k', t ∈ l) ∨ (uE id (l.map Tk.it) = none ∧ e = true)
 | [], h => .inr ⟨rfl, h⟩
 | t :: l, h => by
  have h : @Bool.rec (fun _ => B) (wal xaa (id + 1) l e kk) (kk l) (Nat.beq (xaa t) (id + 1)) = true := h
  rw [aat] at h
  rw [List.map_cons]
  obtain ⟨tf, it⟩ := t
  have go : wal xaa (id + 1) l e kk = true → uE id (it :: l.map Tk.it) = uE id (l.map Tk.it) → (∃ k', uE id (it :: l.map Tk.it) = some (k'.map Tk.it) ∧ kk k' = true ∧ ∀ t ∈ k', t ∈ (⟨tf, it⟩ : Tk) :: l) ∨ (uE id (it :: l.map Tk.it) = none ∧ e = true) := by
   intro h1 h2
   rcases iY l h1 with ⟨k', g1, g2, g3⟩ | ⟨g1, g2⟩
   ·exact .inl ⟨k', by rw [h2]; exact g1, g2, fun t ht => List.mem_cons_of_mem _ (g3 t ht)⟩
   ·exact .inr ⟨by rw [h2]; exact g1, g2⟩
  cases it with
  | inBlock j =>
   simp only at h
   rcases xq h with ⟨h1, h2⟩ | ⟨h1, h2⟩
   ·exact .inl ⟨l, by rw [uE, h1]; rfl, h2, fun t ht => List.mem_cons_of_mem _ ht⟩
   ·exact go h2 (by rw [uE, h1]; rfl)
  | _ => exact go h rfl
theorem sae (l : Nat) (fn : Nat) : ∀ (k : List Tk), eax fn k → (rT l k = none ∧ rP l (k.map Tk.it) = none) ∨ ∃ k', rT l k = some k' ∧ rP l (k.map Tk.it) = some (k'.map Tk.it) ∧ eax fn k'
 | [], _ => .inl ⟨rfl, rfl⟩
 | t :: k, hk => by
  have ih := sae l fn k fun u hu => hk u (List.mem_cons_of_mem _ hu)
  have htf := hk t (List.mem_cons_self ..)
  obtain ⟨tf, it⟩ := t
  simp only at htf
  subst htf
  rw [List.map_cons]
  cases it with
  | inScope body =>
   rw [rT]
   simp only
   rw [rP]
   cases hf : findLabel body l with
   | none => simp only; exact ih
   | some rest =>
    simp only
    refine .inr ⟨_, rfl, rfl, fun u hu => ?_⟩
    rcases List.mem_cons.1 hu with rfl | hu
    ·rfl
    ·exact hk u hu
  | _ => exact ih
theorem XOk.sub {E : Env} {k k' : List Tk} {x : X} (h : XOk E k x) (hs : ∀ t ∈ k', t ∈ k) : XOk E k' x := ⟨fun t ht => h.td t (hs t ht), h.nt, h.cs⟩
theorem uW (hK : wB K C good) {fn l : Nat} {v : V} {q : Rg} {k : List Tk} {x : X} {h : H} {go : Go} (hgo : rQ K C good go) (hfn : x.fn = fn) (hx : XOk K.E k x) (hk : fV K fn l v q k x h go = true) :
  ∃ f first captured, v = .func f first captured ∧ yt C good (gq C.E C.O (pq K.E q (⟨fn, .inRange l⟩ :: k) x) (x.cs.map (om K.E)) (rq K.E f captured (gy first [.func (.yield l) [] []]) h) h) := by
 unfold fV at hk
 split at hk
 ·rename_i f first captured
  refine ⟨f, first, captured, rfl, ?_⟩
  refine vS (t := ⟨fn, .inRange l⟩) hK hgo rfl hfn hx ?_ hk
  intro v q k x h go hgo hfn hx hk
  have hfn : x.fn = fn := hfn
  have := hgo q _ x h (hfn ▸ hx.cons (.endRange l)) hk
  exact ⟨_, rfl, this⟩
 ·cases hk
theorem ian (hK : wB K C good) {fn : Nat} {f : Operand} {ps : Array Tmp} {a b : Code} {q : Rg} {k : List Tk} {x : X} {h : H} {go : Go} (hgo : rQ K C good go) (hfn : x.fn = fn) (hx : XOk K.E k x)
  (hk : (nai K fn f ps.toList a b).run q k x h go = true) : yt C good (nJ C.E C.O (pq K.E q (⟨fn, .code (.rangeFunc f ps a b)⟩ :: k) x) (k.map Tk.it) (x.cs.map (om K.E)) h f ps a b) := by
 unfold nai at hk
 have hv := jr K.E (zl K.E fn) q f
 rcases hg : opd K.E (zl K.E fn) f with ⟨g⟩
 rw [hg] at hv hk
 have hv : g q = ev K.E (dm (zl K.E fn) 0 q) f := hv
 simp only at hk
 obtain ⟨xfn, xd, xk, xr, xcs⟩ := x
 have hfn : xfn = fn := hfn
 subst hfn
 unfold nJ pq
 simp only
 split at hk
 ·rename_i l hr
  have hr : xr = some l := hr
  subst hr
  simp only
  split at hk
  ·rename_i r hl
   rw [hl]
   simp only
   have := kH hk
   obtain ⟨f', first, captured, e1, e2⟩ := uW hK hgo rfl hx this
   unfold nJ.call
   simp only
   rw [← hK.E, ← hv, e1]
   simp only
   rw [← hK.E] at e2
   exact e2
  ·cases hk
 ·rename_i hr
  have hr : xr = none := hr
  subst hr
  simp only
  have h1 := kH hk
  have h2 := kH h1
  obtain ⟨f', first, captured, e1, e2⟩ := uW hK hgo rfl (x := ⟨xfn, .mark h.next :: xd, xk, none, xcs⟩) ⟨hx.td, hx.nt, hx.cs⟩ h2
  unfold nJ.call
  simp only
  rw [← hK.E, ← hv, e1]
  simp only
  rw [← hK.E] at e2
  exact e2
theorem bah (hK : wB K C good) (fn : Nat) : ∀ c : Code, uah K C good fn (.code c) (xI K fn c).run := by
 intro c
 have start : ∀ (c : Code) (q : Rg) (k : List Tk) (x : X) (h : H), yt C good (wF C.E C.O (pq K.E q (⟨fn, .code c⟩ :: k) x) (k.map Tk.it) (x.cs.map (om K.E)) h c) → Ends C good ⟨pq K.E q (⟨fn, .code c⟩ :: k) x, x.cs.map (om K.E), h⟩ := by
  intro c q k x h hc
  refine Ends.qi hK.cx ?_
  rw [zh rfl]
  exact hc
 induction c with
 | skip => intro q k x h go hgo hfn hx hk; exact start _ q k x h (hgo q k x h hx hk)
 | label l => intro q k x h go hgo hfn hx hk; exact start _ q k x h (hgo q k x h hx hk)
 | seq a b iha _ =>
  intro q k x h go hgo hfn hx hk
  exact start _ q k x h (iha q _ x h go hgo hfn (hfn ▸ hx.cons (.code b)) hk)
 | cond c a b iha ihb =>
  intro q k x h go hgo hfn hx hk
  have hk : l8 ((opd K.E (zl K.E fn) c).get q) (fun y => @Bool.rec (fun _ => B) ((xI K fn b).run q k x h go) ((xI K fn a).run q k x h go) y) = true := hk
  rw [jr] at hk
  obtain ⟨y, h1, h2⟩ := oM hk
  refine start _ q k x h ?_
  unfold wF
  simp only
  rw [show (pq K.E q (⟨fn, .code (.cond c a b)⟩ :: k) x).tm = dm (zl K.E fn) 0 q from by rw [← hfn]; rfl, ← hK.E, h1]
  rcases xq h2 with ⟨rfl, h3⟩ | ⟨rfl, h3⟩
  ·exact iha q k x h go hgo hfn hx h3
  ·exact ihb q k x h go hgo hfn hx h3
 | block id b ih =>
  intro q k x h go hgo hfn hx hk
  exact start _ q k x h (ih q _ x h go hgo hfn (hfn ▸ hx.cons (.inBlock id)) hk)
 | loop b ih =>
  intro q k x h go hgo hfn hx hk
  exact start _ q k x h (ih q _ x h go hgo hfn (hfn ▸ hx.cons (.inLoop b)) hk)
 | scope b ih =>
  intro q k x h go hgo hfn hx hk
  exact start _ q k x h (ih q _ x h go hgo hfn (hfn ▸ hx.cons (.inScope b)) hk)
 | exit id =>
  intro q k x h go hgo hfn hx hk
  refine start _ q k x h ?_
  unfold wF
  simp only
  rcases iY k hk with ⟨k', h1, h2, h3⟩ | ⟨h1, h2⟩
  ·rw [h1]
   exact hgo q k' x h (hx.sub h3) h2
  ·rw [h1]
   exact uK hK hgo hfn (hfn ▸ hx.cons (.code (.exit id))) (fun e => by cases e) h2
 | goto l =>
  intro q k x h go hgo hfn hx hk
  refine start _ q k x h ?_
  unfold wF
  simp only
  rcases sae l fn k (hfn ▸ hx.td) with ⟨h1, h2⟩ | ⟨k', h1, h2, h3⟩
  ·rw [h2]
   have hk : (match rT l k with | some k' => go q k' x h | none => dI K fn (some (.goto l)) false q (⟨fn, .code (.goto l)⟩ :: k) x h go) = true := hk
   rw [h1] at hk
   exact uK hK hgo hfn (hfn ▸ hx.cons (.code (.goto l))) (fun e => by cases e) hk
  ·rw [h2]
   have hk : (match rT l k with | some k' => go q k' x h | none => dI K fn (some (.goto l)) false q (⟨fn, .code (.goto l)⟩ :: k) x h go) = true := hk
   rw [h1] at hk
   exact hgo q k' x h ⟨hfn ▸ h3, hx.nt, hx.cs⟩ hk
 | ret =>
  intro q k x h go hgo hfn hx hk
  have hk : dI K fn (some .ret) true q (⟨fn, .code .ret⟩ :: k) x h go = true := hk
  exact start _ q k x h (uK hK hgo hfn (hfn ▸ hx.cons (.code .ret)) (fun _ => .inr rfl) hk)
 | refuse s => intro q k x h go hgo hfn hx hk; cases hk
 | rangeFunc f ps a b _ _ =>
  intro q k x h go hgo hfn hx hk
  exact start _ q k x h (ian hK hgo hfn hx hk)
 | region id ops draw =>
  intro q k x h go hgo hfn hx hk
  refine start _ q k x h ?_
  cases draw with
  | false => exact uab hK fn ops.toList ops.toList q k x h go hgo hfn hx hk
  | true =>
   unfold wF
   simp only
   rw [xI] at hk
   rw [← hK.E]
   split at hk
   ·rename_i p hp
    rw [hp]
    exact dQ hK fn ops.toList _ p [] q k x h go hgo hfn hx hk
   ·cases hk
theorem jaK (hK : wB K C good) (t : Tk) : uah K C good t.fn t.it (act K t).run := by
 obtain ⟨fn, it⟩ := t
 cases it with
 | code c => exact bah hK fn c
 | inBlock id =>
  intro q k x h go hgo hfn hx hk
  refine Ends.qi hK.cx ?_
  rw [zh rfl]
  exact hgo q k x h hx hk
 | inScope c =>
  intro q k x h go hgo hfn hx hk
  refine Ends.qi hK.cx ?_
  rw [zh rfl]
  exact hgo q k x h hx hk
 | inLoop b =>
  intro q k x h go hgo hfn hx hk
  refine Ends.qi hK.cx ?_
  rw [zh rfl]
  exact bah hK fn b q _ x h go hgo hfn (hfn ▸ hx.cons (.inLoop b)) hk
 | reg all rest => exact uab hK fn all rest
 | dreg all ms pend plan => exact dQ hK fn all ms plan pend
 | inRange l => intro q k x h go hgo hfn hx hk; cases hk
 | endRange l =>
  intro q k x h go hgo hfn hx hk
  refine Ends.qi hK.cx ?_
  rw [zh rfl]
  show yt C good (nH _ (k.map Tk.it) (x.cs.map (om K.E)) h l)
  have hk : bS fn l q k x h go = true := hk
  have hfn : x.fn = fn := hfn
  unfold bS at hk
  unfold nH
  split at hk
  ·rename_i r hr
   rw [hr]
   simp only
   split at hk
   ·cases hk
   ·rename_i hb
    have h1 := jH hk
    split
    ·rename_i e; exact absurd e hb
    ·cases hp : r.pending with
     | none =>
      rw [hp] at h1
      exact hgo q k x _ hx h1
     | some c =>
      rw [hp] at h1
      exact hgo q _ x _ (hfn ▸ hx.cons (.code c)) h1
  ·cases hk
 | beginRound =>
  intro q k x h go hgo hfn hx hk
  refine Ends.qi hK.cx ?_
  rw [zh rfl]
  show yt C good (vY (pq K.E q (⟨fn, .beginRound⟩ :: k) x) (x.cs.map (om K.E)) h)
  have hk : jak q k x h go = true := hk
  unfold jak at hk
  unfold vY
  split at hk
  ·rename_i l hl
   rw [show (pq K.E q (⟨fn, .beginRound⟩ :: k) x).rnd = some l from hl]
   simp only
   split at hk
   ·rename_i r hr
    rw [hr]
    simp only
    split at hk
    ·rename_i hs
     rw [hs]
     simp only
     exact hgo q k x _ hx (jH hk)
    ·cases hk
   ·cases hk
  ·cases hk
theorem rac (hK : wB K C good) : ∀ n, rQ K C good (goN K n)
 | 0 => by intro q todo x h hx hk; cases hk
 | n + 1 => by
  intro q todo x h hx hk
  have ih := rac hK n
  cases todo with
  | nil =>
   have hk : dI K x.fn none true q [] x h (goN K n) = true := hk
   refine Ends.qi hK.cx ?_
   rw [zh rfl]
   exact uK hK ih rfl hx (fun _ => .inl rfl) hk
  | cons t k =>
   have hk : (act K t).run q k x h (goN K n) = true := hk
   have ht : t.fn = x.fn := hx.td t (List.mem_cons_self ..)
   have := jaK hK t q k x h (goN K n) ih ht.symm (hx.sub fun u hu => List.mem_cons_of_mem _ hu) hk
   exact this
theorem o6 {P : Program} {E : Env} {O : Orc} {on : Nat → Bool} (hon : ∀ f, on f = false → ∀ args h, O f args h = none) (K : yh P E) (X : jF P E) {base : Nat} {w0 : World} (HO : fab P E O base w0) {μ : Mu} {h : H} {w : World}
  (G : sG E μ) (k : yg E base w0 μ h w) {f : Nat} {args : List V} {rargs : Array Value} (ha : ae μ args rargs.toList) {good : Nat → V → H → Bool} {n : Nat}
  (hrun : ig E f args .normal [] h (goN ⟨E, O, on, good⟩ n) = true) (hgood : ∀ g v h', good g v h' = true → g = f) :
  Calls P f rargs w fun e w' => ∃ v h', good f v h' = true ∧ ∃ μ' rv, e = .returned rv ∧ sj μ h.next μ' ∧ yg E base w0 μ' h' w' ∧ ze μ' v rv := by
 intro CS
 let C : Cx := ⟨P, E, O, base, w0, μ, h.next, CS⟩
 have KC : kF C := ⟨K, X, HO, G⟩
 have hK : wB ⟨E, O, on, good⟩ C good := ⟨KC, rfl, rfl, rfl, hon⟩
 obtain ⟨f1, e1, _, e2⟩ := mH (K := ⟨E, O, on, good⟩) (C := C) (good := good) (rac hK n) (fun c hc => by cases hc) hrun
 have he : eB E f args .normal = some f1 := e1
 obtain ⟨h1, h2, h3⟩ := bQ K (n := h.next) ha he
 have hs : gZ C ⟨f1, [], h⟩ (lone (Frame.enter P f rargs .normal) CS w) :=
  ⟨μ, w, _, _, h.next, rfl, k, sj.refl _ _, Nat.le_refl _, Nat.le_refl _, h1, .nil _⟩
 obtain ⟨g, v, h', g1, μ', w', fr, rv, g2, g3, g4, g5, g6, g7⟩ := e2 _ hs
 have := hgood g v h' g1
 subst this
 exact ⟨.returned rv, w', fr, ⟨v, h', g1, μ', rv, rfl, g6, g5, g7⟩, g2, g3, g4⟩
end
end Go.Ev
end
