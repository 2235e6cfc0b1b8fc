import Derived.Test.YtolfnhebnennpaaAmN
set_option linter.unusedSimpArgs false
set_option linter.unusedVariables false
namespace Go.Al
open Go Go.RowKit
def resv (T : Tab) (rs : List ResultVar) (po : Pat) (y : po.D) : Option SV :=
 match sres T (po.enc y).hp (fun i => lget (po.enc y).sl i) rs with
 | some vs => some (sone1 vs)
 | none => none
def noId : Id → Bool := fun _ => false
theorem avl_length {ν : Nm} {H : SHp} : ∀ {l : List SV}, (avl ν H l).length = l.length
 | [] => by simp [avl]
 | x :: r => by simp only [avl, List.length_cons, avl_length]
theorem subL_of {xs ys : List AV} (hl : xs.length = ys.length) (h : ∀ (i : Nat) x y, xs[i]? = some x → ys[i]? = some y → Sub x y) : SubL xs ys := by
 induction xs generalizing ys with
 | nil => cases ys with
  | nil => exact .nil
  | cons => simp at hl
 | cons x xs ih => cases ys with
  | nil => simp at hl
  | cons y ys => exact .cons (h 0 x y rfl rfl) (ih (by simpa using hl) fun i a b h1 h2 => h (i + 1) a b (by simpa using h1) (by simpa using h2))
theorem slE_get : ∀ {l : List (Nat × PS)} {R : Type} {y : slD l R} {i : Nat}, keysOk i l = true → ∀ (j : Nat) (q : Nat × SV), (slE l R y).1[j]? = some q → q.1 = i + j ∧ lget (slE l R y).1 (i + j) = q.2
 | [], _, _, _, _, j, q, h => by simp [slE] at h
 | (t, p) :: l, R, y, i, hk, j, q, h => by
  simp only [keysOk, Bool.and_eq_true, beq_iff_eq] at hk
  simp only [slE] at h ⊢
  cases j with
  | zero =>
   simp only [List.getElem?_cons_zero, Option.some.injEq] at h
   subst h
   exact ⟨hk.1, by simp only [Nat.add_zero, lget]; rw [if_pos hk.1.symm]⟩
  | succ j =>
   obtain ⟨h1, h2⟩ := slE_get (i := i + 1) hk.2 j q (by simpa using h)
   refine ⟨by omega, ?_⟩
   simp only [lget]
   rw [if_neg (by omega), show i + (j + 1) = i + 1 + j by omega]
   exact h2
theorem AC.lessen {P : Program} {f : FuncId} {as : List AV} {S : AHeap} {R R' : AEnd → AHeap → Prop} (h : AC P f as S R) (k : ∀ e S', R e S' → ∃ S'', Less S'' S' ∧ R' e S'') : AC P f as S R' :=
 ⟨h.1, fun K w vs hs hv => (h.2 K w vs hs hv).mono fun e w' ⟨r, S', K', h1, h2, h3⟩ => by
  obtain ⟨S'', k1, k2⟩ := k _ _ h2
  exact ⟨r, S'', K', h1, k2, h3.sub k1⟩⟩
structure PlainOk {P : Program} (E : Env P) (f : FuncId) (fn : Func) (hs : List (Nat × XH)) (pi po : Pat) (s : pi.D → Option po.D) (rv : po.D → SV) : Prop where
 fits : FitsX P f pi.sl.length hs (xcOf fn hs) fn.results.toList
 s_ok : ∀ x, sfun E (xcOf fn hs) pi [] po x = s x
 keys : keysOk 0 pi.sl = true
 lv : ∀ x, nolv 1 (funF pi [] x) (funS pi [] x) = true
 hp : pi.hp = []
 curs : pi.sl.all (fun q => q.2.curs.isEmpty) = true
 res : ∀ y, resv E.T fn.results.toList po y = some (rv y)
 mi : ∀ y, (rv y).mi noId noId = true
theorem resv_some {T : Tab} {rs : List ResultVar} {po : Pat} {y : po.D} {v : SV} (h : resv T rs po y = some v) : ∃ vs, sres T (po.enc y).hp (fun i => lget (po.enc y).sl i) rs = some vs ∧ v = sone1 vs := by
 unfold resv at h
 split at h
 ·rename_i vs hvs
  exact ⟨vs, hvs, (Option.some.inj h).symm⟩
 ·exact nomatch h
theorem enc_nil {p : Pat} {x : p.D} (h : p.hp = []) : (p.enc x).hp = [] := by
 have := enc_ids (p := p) (x := x)
 rw [h] at this
 cases hc : (p.enc x).hp with
 | nil => rfl
 | cons a b => rw [hc] at this; simp [SHp.ids] at this
theorem plain_ac {P : Program} {E : Env P} (hE : EnvOk E) (hP : P.follows .mixedOrders = true) {f : FuncId} {fn : Func} {hs : List (Nat × XH)} {pi po : Pat} {s : pi.D → Option po.D} {rv : po.D → SV} (h : PlainOk E f fn hs pi po s rv) {x : pi.D} {r : po.D} (hr : s x = some r) (S : AHeap) (ν : Nm) (hν : ν.fn = E.Φ) (H : SHp) :
  AC P f ((pi.enc x).sl.map fun q => q.2.av ν []) S fun r' S' => r' = .ret ((rv r).av ν H) ∧ S' = S := by
 have hpi : (pi.enc x).hp = [] := enc_nil h.hp
 have hF : (funF pi [] x).hp = [] := by simp only [funF, hpi, List.filter_nil]
 have hH : (po.enc r).H (funF pi [] x) = (po.enc r).hp := by rw [SS.H, hF, List.append_nil]
 have hat : (po.enc r).at (funF pi [] x) = fun i => lget (po.enc r).sl i := by
  funext i
  simp only [SS.at, funF, List.append_nil]
 obtain ⟨vs, hvs, hrv⟩ := resv_some (h.res r)
 have hmain := fun_ok hE hP h.fits ((h.s_ok x).trans hr) h.keys (h.lv x) (ν := ν) hν (S := S) (by intro a ha; rw [h.hp] at ha; cases ha) (by intro m o hm; rw [hpi] at hm; cases hm) (vs := vs) (by rw [hH, hat]; exact hvs)
 rw [hpi] at hmain
 refine hmain.lessen ?_
 rintro r' S' ⟨ν', h1, -, -, h2, rfl, rfl⟩
 refine ⟨S, fun n o hn => ?_, ?_, rfl⟩
 ·unfold heapOf
  rw [hp_miss (f := fun o => o.ob ν' ((po.enc r).H (funF pi [] x)))]
  ·exact hn
  ·intro a ha e
   rw [hH, enc_ids] at ha
   have := h2 a ha (by rw [h.hp]; simp)
   rw [e, hn] at this; exact nomatch this
 ·congr 1
  rw [hrv]
  exact SV.mi_congr (p := noId) (q := noId) (fun m hm => nomatch hm) (fun m hm => nomatch hm) h1 (hrv ▸ h.mi r)
def hpU : (l : List (Id × PO)) → Option (hpD l Unit)
 | [] => some ()
 | _ => none
def decA (pi : Pat) (H : SHp) (as : List SV) : Option pi.D :=
 if as.length = pi.sl.length then match slX [] H (fun i => as.getD i .any) pi.sl (hpD pi.hp Unit) with
  | some g => match hpU pi.hp with
   | some u => some (g u)
   | none => none
  | none => none else none
theorem decA_ok {pi : Pat} {H : SHp} {as : List SV} {x : pi.D} (h : decA pi H as = some x) (hk : keysOk 0 pi.sl = true) (hc : pi.sl.all (fun q => q.2.curs.isEmpty) = true) (ν : Nm) : SubL (avl ν H as) ((pi.enc x).sl.map fun q => q.2.av ν []) := by
 unfold decA at h
 split at h
 ·rename_i hl
  split at h
  ·rename_i g hg
   split at h
   ·rename_i u hu
    have hx := Option.some.inj h
    subst hx
    obtain ⟨h1, h2⟩ := slX_ok (ν := ν) (ν' := ν) (H' := []) (mp := []) (fun m => rfl) hg u
    have h2 := h2 fun m ⟨q, hq, hm⟩ => by
     have := List.all_eq_true.1 hc q hq
     have h3 := PS.curs_mem hm
     rw [List.isEmpty_iff.1 this] at h3
     exact nomatch h3
    refine subL_of ?_ fun i a b ha hb => ?_
    ·rw [List.length_map]
     simp only [Pat.enc]
     rw [slE_len, avl_length]; exact hl
    ·rw [List.getElem?_map] at hb
     cases hq : (pi.enc (g u)).sl[i]? with
     | none => rw [hq] at hb; exact nomatch hb
     | some q =>
      rw [hq] at hb
      have hb := Option.some.inj hb
      simp only [Pat.enc] at hq
      obtain ⟨k1, k2⟩ := slE_get hk i q hq
      rw [avl_map, List.getElem?_map] at ha
      cases hp : as[i]? with
      | none => rw [hp] at ha; exact nomatch ha
      | some p =>
       rw [hp] at ha
       have ha := Option.some.inj ha
       have h4 := h2 i
       simp only [List.getD_eq_getElem?_getD] at h4
       rw [hp] at h4
       rw [Nat.zero_add] at k2
       rw [k2] at h4
       rw [← ha, ← hb]
       exact h4
   ·exact nomatch h
  ·exact nomatch h
 ·exact nomatch h
def calPlain {P : Program} {E : Env P} (hE : EnvOk E) (hP : P.follows .mixedOrders = true) {f : FuncId} {fn : Func} {hs : List (Nat × XH)} {pi po : Pat} {s : pi.D → Option po.D} {rv : po.D → SV} (h : PlainOk E f fn hs pi po s rv) : Cal P E.Φ f id where
 run F as st k := match decA pi (st.H F) as with
  | some x => bd (s x) fun y => k (rv y) st
  | none => none
 touch _ _ := []
 pur H as k := match decA pi H as with
  | some x => bd (s x) fun y => k (rv y)
  | none => none
 pur_ok := by
  intro A H ν as k r hν hr
  split at hr
  ·rename_i x hx
   obtain ⟨y, hy, hr⟩ := bd_some hr
   exact ⟨rv y, hr, fun S => (plain_ac hE hP h hy S ν hν H).args (decA_ok hx h.keys h.curs ν)⟩
  ·exact nomatch hr
 ok := by
  intro A pr df S0 F st ν d as k r kv kp hν hok hr hk
  split at hr
  ·rename_i x hx
   obtain ⟨y, hy, hr⟩ := bd_some hr
   refine ⟨_, _, _, GhostL.refl, ?_⟩
   refine ((plain_ac hE hP h hy (heapOf ν F st S0) ν hν (st.H F)).args (decA_ok hx h.keys h.curs ν)).mono ?_
   rintro e S' ⟨rfl, rfl⟩ _
   exact ⟨_, _, _, GhostL.refl, hk _ _ _ .refl hok hr (fun i => rfl) ⟨fun _ _ _ => rfl, fun n len h => ⟨len, h⟩⟩⟩
  ·exact nomatch hr
end Go.Al
