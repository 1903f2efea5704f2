/- append, copy, clear. -/
import Derived.Test.YtaijmekhfleciaaAmC
import Derived.Deep.Upon
set_option linter.unusedVariables false
set_option linter.unusedSimpArgs false
namespace Go.Proofs.Ytaijmekhfleciaa.Am
open Go
section
variable {P : Program} {w : World} {ρ : Rho} {nt : Nat} {fr : Fr} {a : Act} {g : Nat → Option Blk} {h h' : HS}
variable {dst : Option Tmp} {type : TypeId} {pos : String} {after : Array Edge} {guard : Option (Nat × Bool)}
theorem lenOf_ok {x : AV} {u : Value} {m : Nat} (hx : RV ρ x u) (hl : lenOf x = some m) : ∃ ad c, u = .slice ad m c ∧ m ≤ c ∧ (ad = none → m = 0 ∧ c = 0) := by
  unfold lenOf at hl
  split at hl
  · injection hl with hl
    subst hl
    obtain ⟨cb, base, tot, o, c, _, rfl, hle, _⟩ := hx
    exact ⟨_, c, rfl, hle, fun e => by simp at e⟩
  · injection hl with hl
    subst hl
    exact ⟨none, 0, hx, Nat.le_refl _, fun _ => ⟨rfl, rfl⟩⟩
  · exact absurd hl (by simp)
/-- The cells of a slice's first elements, in the model. -/
theorem elems_ok (hb : RB g ρ w) {x : AV} {u : Value} {size n : Nat} {cells : List AS} (hx : RV ρ x u) (he : elems g size n x = some cells) :
    ∃ vs : List Value, RL ρ cells vs ∧ vs.length = n * size ∧ ((∃ ad l c, u = .slice (some ad) l c ∧ ∀ (j : Nat) (v : Value), vs[j]? = some v → w.cell? (ad.add j) = some v) ∨ (u = .slice none 0 0 ∧ n = 0)) := by
  unfold elems at he
  split at he
  · rename_i id off len cap sz
    obtain ⟨cb, base, tot, o, c, hr, rfl, hle, ho, _⟩ := hx
    by_cases h0 : n = 0
    · subst h0
      rw [show Nat.beq 0 0 = true from rfl, cond_true] at he
      injection he with he
      subst he
      exact ⟨[], trivial, by simp, .inl ⟨_, _, _, rfl, fun j v e => by simp at e⟩⟩
    · rw [natBeq, decide_eq_false h0, cond_false] at he
      obtain ⟨_, h2⟩ := cond_some he
      obtain ⟨h3, h4⟩ := cond_some h2
      rw [Nat.ble_eq] at h3
      obtain rfl := ho (by omega)
      split at h4
      · rename_i own cs hg
        obtain ⟨cb', base', tot', e', hbk⟩ := hb.blk id _ hg
        rw [hr] at e'
        injection e' with e'
        injection e' with e1 e2
        injection e2 with e2 e3
        subst e1 e2 e3
        obtain ⟨vs, f1, f2, f3⟩ := row_cells hbk h4
        exact ⟨vs, f1, f2, .inl ⟨_, _, _, rfl, fun j v e => by rw [add_addr]; exact f3 j v e⟩⟩
      · exact absurd h4 (by simp)
  · obtain ⟨h1, h2⟩ := cond_some he
    rw [natBeq, decide_eq_true_eq] at h1
    injection h2 with h2
    subst h1 h2
    exact ⟨[], trivial, by simp, .inr ⟨hx, rfl⟩⟩
  · exact absurd he (by simp)
theorem first_run {vs : List Value} {u : Value} {size n : Nat} (hl : vs.length = n * size) (hc : (∃ ad l c, u = .slice (some ad) l c ∧ ∀ (j : Nat) (v : Value), vs[j]? = some v → w.cell? (ad.add j) = some v) ∨ (u = .slice none 0 0 ∧ n = 0)) :
    (Builtin.firstCells size n u).run P w = .ok vs.toArray w := by
  rcases hc with ⟨ad, l, c, rfl, hcell⟩ | ⟨rfl, rfl⟩
  · exact run_firstCells_some w size n ad l c vs hl hcell
  · have : vs = [] := List.length_eq_zero_iff.1 (by simpa using hl)
    subst this
    exact run_firstCells_none w size 0 0 0
theorem elems_src (hb : RB g ρ w) {x : AV} {u : Value} {size m : Nat} {new : List AS} {t e' : TypeId} (ht : P.underlying t = some (.slice e')) (hx : RV ρ x u) (hl : lenOf x = some m) (he : elems g size m x = some new) :
    ∃ news : List Value, RL ρ new news ∧ Src P size t u m news w := by
  obtain ⟨vs, f1, f2, f3⟩ := elems_ok hb hx he
  obtain ⟨ad, c, e1, _, _⟩ := lenOf_ok hx hl
  refine ⟨vs, f1, .inl ⟨e', ht⟩, fun w' => by rw [e1]; rfl, first_run f2 f3, first_run f2 ?_, f2, f1.allOne⟩
  rcases f3 with ⟨ad, l, c, rfl, hcell⟩ | ⟨rfl, rfl⟩
  · exact .inl ⟨ad, l, c, rfl, fun j v e => by simpa using hcell j v e⟩
  · exact .inr ⟨rfl, rfl⟩
/-- A new row for what has grown. -/
theorem grow_stp (hb : RB h.get ρ w) (hid : ρ h.nx = none) {size n c : Nat} {cells : List AS} {vs rest : List Value} {e : TypeId} (hr : RL ρ cells vs) (hl : vs.length = n * size) (hrest : rest.length = (c - n) * size) (hn : n ≤ c) :
    ∃ ρ', Stp h.get ρ w (h.new (.row true cells)).get ρ' (w.drew.alloc (.cells (vs.toArray ++ rest.toArray) e)) h.nx (h.nx + 1) ∧ RV ρ' (.r (.v (.sl h.nx 0 n none size))) (.slice (some ⟨w.heap.size, 0, none⟩) n c) := by
  have s1 := Stp.drew hb h.nx
  have hcl := hr.length
  have hsize : (vs.toArray ++ rest.toArray).size = c * size := by
    simp only [Array.size_append, List.size_toArray, hl, hrest]
    rw [← Nat.add_mul]
    congr 1
    omega
  refine ⟨updR ρ h.nx (w.heap.size, 0, c * size), ?_, ?_⟩
  · rw [new_get]
    have hblk : RBlk (updR ρ h.nx (w.drew.heap.size, 0, (vs.toArray ++ rest.toArray).size)) (w.drew.alloc (.cells (vs.toArray ++ rest.toArray) e)) w.drew.heap.size 0 (vs.toArray ++ rest.toArray).size (.row true cells) := by
      refine row_blk (RL.mono (updR_ext hid) ?_) (by rw [hsize, hcl, hl]; exact Nat.mul_le_mul_right _ hn)
      have : (vs.toArray ++ rest.toArray).toList.take cells.length = vs := by
        rw [hcl]
        simp
      rw [this]
      exact hr
    have := s1.trans (new_stp s1.rb hid hblk rfl) (Nat.le_refl _) (Nat.le_succ _)
    rw [hsize] at this
    exact this
  · exact ⟨w.heap.size, 0, c * size, 0, c, updR_self, rfl, hn, fun _ => rfl, fun k e => by simp at e, fun _ _ => by omega⟩
theorem zeroCells_length (zs : Array Value) (n : Nat) : (Builtin.zeroCells zs n).toList.length = n * zs.size := by simp [Builtin.zeroCells]
theorem appH_nx {id n : Nat} {cap : Option Nat} (happ : appH h id n cap = some h') : h'.nx = h.nx := by
  unfold appH at happ
  split at happ
  · obtain ⟨_, h4⟩ := cond_some happ
    injection h4 with h4
    rw [h4]
  · split at happ
    · injection happ with happ
      subst happ
      rfl
    · exact absurd happ (by simp)
/-- append, whatever is appended. -/
theorem app_ok (hb : RB h.get ρ w) (hid0 : h.nx < h'.nx → ρ h.nx = none) {t t1 ty e : TypeId} {i : TypeInfo} {zv : Value} {size bytes : Nat} (ht : P.underlying t = some (.slice e)) (hi : P.info? e = some i) (hz : i.zero = some zv) (hsz : i.size = size) (hby : i.bytes = bytes) (hby0 : 0 < bytes)
    (hzs : zv.cells.size = size) (hs0 : 0 < size) {S v : AV} {sv xv : Value} {m : Nat} {new : List AS} {news : List Value} (hS : RV ρ S sv) (hsrc : Src P size t1 xv m news w) (hnew : RL ρ new news) (hv : appE h size bytes S m new = some (v, h')) :
    ∃ u w' ρ', (Builtin.append_ #[t, t1] ty #[sv, xv]).run P w = .ok u w' ∧ RV ρ' v u ∧ Stp h.get ρ w h'.get ρ' w' h.nx h'.nx ∧ h.nx ≤ h'.nx := by
  subst hsz hby
  have fits : ∀ {n : Nat}, n * i.bytes ≤ 70000000000000 → n ≤ 70000000000000 := fun {n} hle => Nat.le_trans (Nat.le_mul_of_pos_right n hby0) hle
  have nothing : m = 0 → ∀ {base : Option Addr} {sLen sCap : Nat}, sv = .slice base sLen sCap → sLen ≤ sCap → (Builtin.append_ #[t, t1] ty #[sv, xv]).run P w = .ok sv w := by
    intro h0 base sLen sCap e hle
    subst h0
    have : news = [] := List.length_eq_zero_iff.1 (by simpa using hsrc.newsLen)
    subst this
    rw [e]
    exact run_append_nothing w t t1 ty _ i ht hi base sLen sCap hle xv hsrc
  unfold appE at hv
  split at hv
  · have e1 : sv = .slice none 0 0 := hS
    by_cases h0 : m = 0
    · rw [natBeq, decide_eq_true h0, cond_true] at hv
      injection hv with hv
      injection hv with h2 h3
      subst h2 h3
      exact ⟨sv, w, ρ, nothing h0 e1 (Nat.le_refl _), e1, Stp.refl hb _, Nat.le_refl _⟩
    · rw [natBeq, decide_eq_false h0, cond_false] at hv
      obtain ⟨hle, h2⟩ := cond_some hv
      rw [Nat.ble_eq] at hle
      unfold appN at h2
      injection h2 with h2
      injection h2 with h2 h3
      subst h2 h3 e1
      have hid : ρ h.nx = none := hid0 (Nat.lt_succ_self _)
      have hm := fits hle
      have hrun := run_append_grow_src (P := P) w t t1 ty e i zv ht hi hz none 0 0 [] (run_firstCells_none w.drew i.size 0 0 0) xv m news hsrc (by omega) (by omega) (by rw [Nat.zero_add]; exact growslice_fits (by omega) (by omega))
      have hge := grownCap_ge w (0 + m) 0 e
      obtain ⟨ρ', s1, s2⟩ := grow_stp hb hid (c := grownCap w (0 + m) 0 e) (e := e) hnew hsrc.newsLen (by rw [← hzs]; exact zeroCells_length zv.cells _) (by omega)
      refine ⟨_, _, ρ', hrun, ?_, ?_, Nat.le_succ _⟩
      · rw [Nat.zero_add]; rw [Nat.zero_add] at s2; exact s2
      · simp only [List.nil_append, Nat.zero_add] at s1 ⊢
        exact s1
  · rename_i id off n cap sz
    obtain ⟨cb, base, tot, o, c, hr, e1, hnc, ho, hcap, hcapN⟩ := hS
    by_cases h0 : m = 0
    · rw [natBeq, decide_eq_true h0, cond_true] at hv
      injection hv with hv
      injection hv with h2 h3
      subst h2 h3
      exact ⟨sv, w, ρ, nothing h0 e1 hnc, ⟨cb, base, tot, o, c, hr, e1, hnc, ho, hcap, hcapN⟩, Stp.refl hb _, Nat.le_refl _⟩
    · rw [natBeq, decide_eq_false h0, cond_false] at hv
      obtain ⟨hle, h2⟩ := cond_some hv
      rw [Bool.and_eq_true, natBeq, decide_eq_true_eq, Nat.ble_eq] at hle
      obtain ⟨hsz, hle⟩ := hle
      subst hsz
      split at h2
      · rename_i old h1 hold happ
        unfold appN at h2
        injection h2 with h2
        injection h2 with h2 h3
        subst h2 h3
        have hid : ρ h.nx = none := hid0 (by have := appH_nx happ; show h.nx < h1.nx + 1; omega)
        have hm := fits hle
        have hS' : RV ρ (.r (.v (.sl id off n cap i.size))) sv := ⟨cb, base, tot, o, c, hr, e1, hnc, ho, hcap, hcapN⟩
        obtain ⟨olds, f1, f2, f3⟩ := elems_ok hb hS' hold
        have hcat := RL.append f1 hnew
        have hcatl : (olds ++ news).length = (n + m) * i.size := by rw [List.length_append, f2, hsrc.newsLen, Nat.add_mul]
        subst e1
        -- a new row
        have grow : ∀ {h1 : HS}, Stp h.get ρ w h1.get ρ w h.nx h.nx → h1.nx = h.nx → c < n + m →
            ∃ u w' ρ', (Builtin.append_ #[t, t1] ty #[.slice (some ⟨cb, o, none⟩) n c, xv]).run P w = .ok u w' ∧ RV ρ' (.r (.v (.sl h1.nx 0 (n + m) none i.size))) u ∧ Stp h.get ρ w (h1.new (.row true (old ++ new))).get ρ' w' h.nx (h1.new (.row true (old ++ new))).nx ∧ h.nx ≤ (h1.new (.row true (old ++ new))).nx := by
          intro h1 hstp hnx hc
          have hfo : (Builtin.firstCells i.size n (.slice (some ⟨cb, o, none⟩) n c)).run P w.drew = .ok olds.toArray w.drew := by
            refine first_run f2 ?_
            rcases f3 with ⟨ad, l, c', e2, hcell⟩ | ⟨e2, _⟩
            · exact .inl ⟨ad, l, c', e2, fun j v e => by simpa using hcell j v e⟩
            · exact absurd e2 (by simp)
          have hrun := run_append_grow_src (P := P) w t t1 ty e i zv ht hi hz (some ⟨cb, o, none⟩) n c olds hfo xv m news hsrc hc (by omega) (growslice_fits hc (by omega))
          have hge := grownCap_ge w (n + m) c e
          obtain ⟨ρ', s1, s2⟩ := grow_stp (h := h1) hstp.rb (by rw [hnx]; exact hid) (c := grownCap w (n + m) c e) (e := e) hcat hcatl (by rw [← hzs]; exact zeroCells_length zv.cells _) hge
          refine ⟨_, _, ρ', hrun, s2, ?_, ?_⟩
          · have := hstp.trans (hnx ▸ s1) (Nat.le_refl _) (Nat.le_succ _)
            exact hnx ▸ this
          · show h.nx ≤ h1.nx + 1
            omega
        unfold appH at happ
        split at happ
        · rename_i k
          obtain ⟨hk, h4⟩ := cond_some happ
          injection h4 with h4
          subst h4
          rw [Nat.blt_eq] at hk
          exact grow (Stp.refl hb _) rfl (by have := hcap k rfl; omega)
        · split at happ
          · rename_i cells hg
            injection happ with happ
            subst happ
            by_cases hc : c < n + m
            · refine grow ?_ rfl hc
              rw [put_get]
              exact sub_stp hb id _
            · -- there is room
              have hc0 : 0 < c := by omega
              obtain rfl := ho hc0
              have hfit := hcapN rfl hc0
              obtain ⟨cb', base', tot', e', cs, ty', fz, d1, d2, d3, d4, d5⟩ := hb.blk id _ hg
              rw [hr] at e'
              injection e' with e'
              injection e' with e1 e2
              injection e2 with e2 e3
              subst e1 e2 e3
              have hfz : fz = (0, 0) := d5 rfl
              subst hfz
              have hnl := hsrc.newsLen
              have hmul : (n + m) * i.size ≤ c * i.size := Nat.mul_le_mul_right _ (by omega)
              rw [Nat.add_mul] at hmul
              have hst := run_storeCells_at P cb (base + off + n * i.size) ty' news 0 cs w d1 (by omega) hsrc.one
              simp only [Nat.add_zero] at hst
              have hrun : (Builtin.append_ #[t, t1] ty #[.slice (some ⟨cb, base + off, none⟩) n c, xv]).run P w = .ok (.slice (some ⟨cb, base + off, none⟩) (n + m) c) (w.setRow cb (cs.toList.take (base + off + n * i.size) ++ news ++ cs.toList.drop (base + off + n * i.size + news.length)).toArray) := by
                have hroom : n + m ≤ c := by omega
                rcases hsrc.kind with ⟨e', hk⟩ | hk <;> simp [Builtin.append_, run_underlying ht, run_underlying hk, sizeOf, typeInfo, hi, hsrc.len, hroom, hsrc.cells, Addr.add_lit, hst]
              have hsize : (cs.toList.take (base + off + n * i.size) ++ news ++ cs.toList.drop (base + off + n * i.size + news.length)).toArray.size = tot := by rw [over_size (by omega)]; exact d2
              refine ⟨_, _, updR ρ h.nx (cb, base + off, tot), hrun, ?_, ?_, Nat.le_succ _⟩
              · exact ⟨cb, base + off, tot, base + off, c, updR_self, rfl, by omega, fun _ => rfl, fun k e => by simp at e, fun _ _ => hfit⟩
              · rw [new_get, put_get]
                refine ren_stp hb hg rfl hr hid (setRow_size _ _ _) rfl rfl rfl (fun k hk => setRow_other _ _ _ _ hk) ?_ rfl
                refine ⟨_, ty', (0, 0), setRow_heap w cb cs _ ty' _ d1, hsize, ?_, ?_, fun _ => rfl⟩
                · have := hcat.length
                  rw [this, hcatl, Nat.add_mul]
                  omega
                · intro j b hj
                  obtain ⟨v, hv, hrv⟩ := hcat.at j b hj
                  refine ⟨v, ?_, RS.mono (updR_ext hid) hrv⟩
                  rw [List.getElem?_toArray, List.append_assoc]
                  have hlt : (cs.toList.take (base + off + n * i.size)).length = base + off + n * i.size := by rw [List.length_take, Array.length_toList]; omega
                  by_cases hjo : j < n * i.size
                  · rw [List.getElem?_append_left (by omega)] at hv
                    rw [List.getElem?_append_left (by omega), List.getElem?_take, if_pos (by omega), Array.getElem?_toList]
                    have hcell : w.cell? ⟨cb, base + off + j, none⟩ = some v := by
                      rcases f3 with ⟨ad, l, c', e2, hcell⟩ | ⟨e2, _⟩
                      · injection e2 with e2
                        injection e2 with e2
                        subst e2
                        have := hcell j v hv
                        rwa [add_addr] at this
                      · exact absurd e2 (by simp)
                    rw [cell_at d1] at hcell
                    exact hcell
                  · rw [List.getElem?_append_right (by omega)] at hv
                    have hjn : j - olds.length < news.length := (List.getElem?_eq_some_iff.1 hv).1
                    rw [List.getElem?_append_right (by omega), hlt, List.getElem?_append_left (by omega), ← hv]
                    congr 1
                    omega
          · exact absurd happ (by simp)
      · exact absurd h2 (by simp)
  · exact absurd hv (by simp)
end
end Go.Proofs.Ytaijmekhfleciaa.Am
