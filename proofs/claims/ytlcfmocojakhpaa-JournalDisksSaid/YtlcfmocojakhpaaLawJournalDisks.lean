/- Any disk that is written to, synced, and crashes, has the bytes that the document says; what was handed in stays: the law's walk. -/
import Derived.Test.YtlcfmocojakhpaaReadJ
import Derived.Test.YtlcfmocojakhpaaJDisk3
namespace Go.Proofs.Ytlcfmocojakhpaa.Sh
open Go Go.RowKit

set_option maxRecDepth 20000 in
set_option maxHeartbeats 6400000 in
theorem journalDisks_walk (w : World) {v u : Value} {D : List UInt8 × List UInt8} {b : List UInt8} {kz tz : Int} (hv : DskRep w v D) (hu : Bs w u b) (hkz : (Lit.int .i64 kz).wf = true) (htz : (Lit.int .u8 tz).wf = true) :
    Calls Try.prog 3 #[v, u, .int .i64 kz, .int .u8 tz] w fun e w' => e = .returned (.bool true) ∧ Only [] w w' := by
  have hkp := wfi64 hkz
  obtain ⟨tn, rfl⟩ : ∃ tn : UInt8, tz = (tn.toNat : Int) := ⟨UInt8.ofNat tz.toNat, by
    have := wfu8 htz
    rw [UInt8.toNat_ofNat']
    omega⟩
  obtain ⟨fv, lv, rfl, hf, hl⟩ := hv
  obtain ⟨f, l⟩ := D
  simp only at hf hl
  obtain ⟨fa, fc, rfl⟩ := bs_form hf
  obtain ⟨la, lc, rfl⟩ := bs_form hl
  obtain ⟨ba, bc, rfl⟩ := bs_form hu
  obtain ⟨w1, hw1⟩ : ∃ w1, w1 = w.alloc (Obj.cells #[.slice fa f.length fc, .slice la l.length lc] 24) := ⟨_, rfl⟩
  have o1 : Only [] w w1 := by rw [hw1]; exact (Only.refl [] w).alloc _
  have wl0 := hid (show w.heap.size < w1.heap.size by rw [hw1]; simp)
  have c0 : w1.cell? ⟨w.heap.size, 0, none⟩ = some (.slice fa f.length fc) := by rw [hw1]; simp [go_sem]
  have c1 : w1.cell? ⟨w.heap.size, 1, none⟩ = some (.slice la l.length lc) := by rw [hw1]; simp [go_sem]
  clear hkz htz
  by_cases hbad : 200 < f.length ∨ 200 < l.length ∨ 200 < b.length
  · by_cases g1 : 200 < f.length
    all_goals first
      | (have hq : 200 < f.length := g1
         clear hbad)
      | (by_cases g2 : 200 < l.length
         all_goals first
           | (have hq : 200 < l.length := g2
              clear hbad)
           | (have hq : 200 < b.length := by
                rcases hbad with h | h | h
                · exact absurd h g1
                · exact absurd h g2
                · exact h
              clear hbad))
    all_goals
      go_enter Try.func3, Try.ntmps3
      go_wp2_with fail
      rw [← hw1]
      clear hw1
      refine (awake12_any _).mono ?_
      rintro e w2 ⟨rfl, o2⟩
      replace c0 := o2.cell c0 (by simp)
      replace c1 := o2.cell c1 (by simp)
      go_wp2_with fail
      refine (awake12_any _).mono ?_
      rintro e w3 ⟨rfl, o3⟩
      go_wp2
      go_ret
      exact ⟨rfl, (o1.trans0 o2).trans0 o3⟩
  have hF : f.length ≤ 200 := by omega
  have hL : l.length ≤ 200 := by omega
  have hB : b.length ≤ 200 := by omega
  clear hbad
  have hf1 := hf.kept0 o1
  have hl1 := hl.kept0 o1
  have hb1 := hu.kept0 o1
  go_enter Try.func3, Try.ntmps3
  go_wp2_with fail
  rw [← hw1]
  clear hw1
  refine (awake12_any _).mono ?_
  rintro e w2 ⟨rfl, o2⟩
  replace c0 := o2.cell c0 (by simp)
  replace c1 := o2.cell c1 (by simp)
  replace hf1 := hf1.kept0 o2
  replace hl1 := hl1.kept0 o2
  replace hb1 := hb1.kept0 o2
  go_wp2_with fail
  refine disks3_ok _ w2 w.heap.size f l fa fc la lc _ _ _ _ _ _ _ _ _ _ _ _ _ _ _ _ _ _ _ _ _ _ _ _ _ _ _ _ _ _ _ _ _ _ _ _ _ _ _ _ _ _ _ _ _ _ _ _ _ _ _ _ _ _ _ _ _ _ _ _ _ _ _ _ _ _ _ _ _ _ _ _ _ _ _ _ _ _ _ _ _ _ _ _ _ _ _ _ _ _ _ _ _ _ _ _ _ _ _ _ _ _ _ _ _ _ _ _ _ _ _ _ _ _ _ _ _ _ _ _ _ _ _ _ _ _ _ _ _ _ _ _ _ _ _ _ _ _ _ _ _ _ _ _ _ c0 c1 hf1 hl1 (by omega) ?_
  intro n9 xa xc ya yc v39 v42 v43 v46 v47 W oW hn9 x0 x1 X0 X1
  have O3 := (o1.trans0 o2).trans0 oW
  have hbW := hb1.kept0 oW
  have c0W := oW.cell c0 (by simp)
  have c1W := oW.cell c1 (by simp)
  have hfW := hf1.kept0 oW
  have hlW := hl1.kept0 oW
  clear c0 c1 hf1 hl1 hb1
  obtain ⟨lb, hlb⟩ : ∃ lb, lb = l ++ b := ⟨_, rfl⟩
  have hlbl : lb.length ≤ 400 := by rw [hlb, List.length_append]; omega
  obtain ⟨al, hal⟩ : ∃ al, al = f ++ lb := ⟨_, rfl⟩
  have hall : al.length ≤ 600 := by rw [hal, List.length_append]; omega
  obtain ⟨cr, hcr⟩ : ∃ cr, cr = crashL f l kz tn := ⟨_, rfl⟩
  have hcrl : cr.length ≤ 400 := by rw [hcr]; exact Nat.le_trans (crashL_len _ _ _ _) (by omega)
  have wr := write_any W _ _ _ f l b X0 X1 hbW (by omega)
  rw [← hlb] at wr
  have sy := fun V fv lv (hF : Bs V fv f) (hL : Bs V lv lb) => dsync_any V fv lv f lb hF hL (by omega)
  simp only [← hal] at sy
  have ch := fun V (hk : Only [] W V) => dcrash_any V _ _ f l kz tn (X0.kept0 hk) (X1.kept0 hk) hkp (by omega)
  simp only [← hcr] at ch
  have rch := fun V (hk : Only [] W V) => rcrash_any V _ _ f l kz tn (hfW.kept0 hk) (hlW.kept0 hk) hkp (by omega)
  simp only [← hcr] at rch
  have hcz := crashL_none al kz tn
  have zh := fun V fv (hF : Bs V fv al) => dcrash_any V fv (.slice none 0 0) al [] kz tn hF (Bs.empty (w := V) (by unfold maxLen; omega)) hkp (by simp; omega)
  simp only [hcz] at zh
  have rl := fun V (hk : Only [] W V) => rall_any V _ _ f l (hfW.kept0 hk) (hlW.kept0 hk) (by omega)
  obtain ⟨fl, hfl⟩ : ∃ fl, fl = f ++ l := ⟨_, rfl⟩
  have hfll : fl.length ≤ 400 := by rw [hfl, List.length_append]; omega
  simp only [← hfl] at rl
  have hae : fl ++ b = al := by rw [hal, hlb, hfl, List.append_assoc]
  replace wr := hid wr
  replace sy := hid sy
  replace ch := hid ch
  replace rch := hid rch
  replace zh := hid zh
  replace rl := hid rl
  have HAE := hid hae
  have HLB := hid hlb
  clear hal hlb hcr hcz hfl hae
  have ff : Only [] W W := Only.refl [] W
  have HKP := hid hkp
  clear hkp
  go_wp2_with fail
  refine wr.out.mono ?_
  rintro e u4 ⟨f4, l4, rfl, F4, L4, s4⟩
  obtain ⟨f4a, f4c, rfl⟩ := own_form F4
  obtain ⟨l4a, l4c, rfl⟩ := own_form L4
  obtain ⟨b4, hb4⟩ : ∃ b4, b4 = u4.alloc (Obj.cells #[.slice f4a f.length f4c, .slice l4a lb.length l4c] 26) := ⟨_, rfl⟩
  have ob4 : Only [] u4 b4 := by rw [hb4]; exact (Only.refl [] u4).alloc _
  have p4 : Only [] W b4 := s4.trans0 ob4
  have k40 : b4.cell? ⟨u4.heap.size, 0, none⟩ = some (.slice f4a f.length f4c) := by rw [hb4]; simp [go_sem]
  have k41 : b4.cell? ⟨u4.heap.size, 1, none⟩ = some (.slice l4a lb.length l4c) := by rw [hb4]; simp [go_sem]
  have zb4 : u4.heap.size < b4.heap.size := by rw [hb4]; simp
  have F4b := own_only0 F4 ob4
  have L4b := own_only0 L4 ob4
  clear wr L4
  go_wp2_with fail
  rw [← hb4]
  clear hb4
  refine (sy.out _ _ _ (Cs.of_own F4b (by omega)) (Cs.of_own L4b (by omega))).mono ?_
  rintro e u5 ⟨f5, rfl, F5, s5⟩
  obtain ⟨f5a, f5c, rfl⟩ := own_form F5
  obtain ⟨b5, hb5⟩ : ∃ b5, b5 = u5.alloc (Obj.cells #[.slice f5a al.length f5c, .slice none 0 0] 26) := ⟨_, rfl⟩
  have ob5 : Only [] u5 b5 := by rw [hb5]; exact (Only.refl [] u5).alloc _
  have p5 : Only [] b4 b5 := s5.trans0 ob5
  have k50 : b5.cell? ⟨u5.heap.size, 0, none⟩ = some (.slice f5a al.length f5c) := by rw [hb5]; simp [go_sem]
  have k51 : b5.cell? ⟨u5.heap.size, 1, none⟩ = some (.slice none 0 0) := by rw [hb5]; simp [go_sem]
  have zb5 : u5.heap.size < b5.heap.size := by rw [hb5]; simp
  have F5b := own_only0 F5 ob5
  have P5 : Only [] W b5 := p4.trans0 p5
  clear sy
  have lx0 := P5.cell x0 (by simp)
  have lx1 := P5.cell x1 (by simp)
  rw [hb5] at lx0 lx1
  go_wp2_with fail
  rw [← hb5]
  clear hb5 lx0 lx1
  refine (ch.out _ P5).mono ?_
  rintro e u6 ⟨f6, rfl, F6, s6⟩
  obtain ⟨f6a, f6c, rfl⟩ := own_form F6
  obtain ⟨b6, hb6⟩ : ∃ b6, b6 = u6.alloc (Obj.cells #[.slice f6a cr.length f6c, .slice none 0 0] 26) := ⟨_, rfl⟩
  have ob6 : Only [] u6 b6 := by rw [hb6]; exact (Only.refl [] u6).alloc _
  have p6 : Only [] b5 b6 := s6.trans0 ob6
  have k60 : b6.cell? ⟨u6.heap.size, 0, none⟩ = some (.slice f6a cr.length f6c) := by rw [hb6]; simp [go_sem]
  have k61 : b6.cell? ⟨u6.heap.size, 1, none⟩ = some (.slice none 0 0) := by rw [hb6]; simp [go_sem]
  have zb6 : u6.heap.size < b6.heap.size := by rw [hb6]; simp
  have F6b := own_only0 F6 ob6
  have P6 : Only [] W b6 := P5.trans0 p6
  clear ch
  have lx0 := p6.cell k50 (by simp)
  have lx1 := p6.cell k51 (by simp)
  rw [hb6] at lx0 lx1
  go_wp2_with fail
  rw [← hb6]
  clear hb6 lx0 lx1
  refine (zh.out _ _ (Cs.of_own (own_only0 F5b p6) (by omega))).mono ?_
  rintro e u7 ⟨f7, rfl, F7, s7⟩
  obtain ⟨f7a, f7c, rfl⟩ := own_form F7
  obtain ⟨b7, hb7⟩ : ∃ b7, b7 = u7.alloc (Obj.cells #[.slice f7a al.length f7c, .slice none 0 0] 26) := ⟨_, rfl⟩
  have ob7 : Only [] u7 b7 := by rw [hb7]; exact (Only.refl [] u7).alloc _
  have p7 : Only [] b6 b7 := s7.trans0 ob7
  have k70 : b7.cell? ⟨u7.heap.size, 0, none⟩ = some (.slice f7a al.length f7c) := by rw [hb7]; simp [go_sem]
  have k71 : b7.cell? ⟨u7.heap.size, 1, none⟩ = some (.slice none 0 0) := by rw [hb7]; simp [go_sem]
  have zb7 : u7.heap.size < b7.heap.size := by rw [hb7]; simp
  have F7b := own_only0 F7 ob7
  have P7 : Only [] W b7 := P6.trans0 p7
  clear zh F7
  have oe : Only [] b7 (b7.alloc (Obj.cells #[] 5)) := (Only.refl [] b7).alloc _
  have lc0 := (P7.trans0 oe).cell c0W (by simp)
  have lc1 := (P7.trans0 oe).cell c1W (by simp)
  rw [hb7] at lc0 lc1
  have hsb7 := hid (show u7.heap.size + 1 = b7.heap.size by rw [hb7]; simp)
  have ob := own_built b7 [] 5 1 0 rfl (by unfold maxLen; omega)
  go_wp2_with fail
  rw [← hb7]
  clear hb7 lc0 lc1
  refine (rl.out _ (P7.trans0 oe)).mono ?_
  rintro e u8 ⟨v8, rfl, F8, s8⟩
  obtain ⟨v8a, v8c, rfl⟩ := own_form F8
  have P8 := (P7.trans0 oe).trans0 s8
  have ob8 := own_only0 ob s8
  have b8 : Bs u8 (.slice v8a fl.length v8c) fl := Cs.of_own F8 (by omega)
  have hb8 := hbW.kept0 P8
  clear rl ob F8
  rw [hsb7.out]
  have Q8 : Only [] b7 u8 := oe.trans0 s8
  clear oe s8
  have z8 := Q8.size
  go_wp2_with (first
    | (at_builtin; refine wpList_app (by rfl) _ _ 22 (by rfl) b7.heap.size 5 1 1 el_u8 (by rfl) ob8 (by rfl) b8 (bytes_one fl) (by omega) (by omega) (by omega) ?_; intro v9 u9 hown9 happ9; replace hown9 := own_cast (n' := fl.length) (xs' := bytes fl) hown9 (Nat.zero_add _) rfl; obtain ⟨v9a, v9c, rfl⟩ := own_form hown9; have Q9 : Only [] b7 u9 := Q8.app happ9 (fun k hk => .inr (ob8.lt k hk).1); have z9 := Q9.size)
    | (at_builtin; refine wpList_app (by rfl) _ _ 22 (by rfl) b7.heap.size 5 1 1 el_u8 (by rfl) hown9 (by rfl) ((hbW.kept0 P7).kept0 Q9) (bytes_one b) (by omega) (by omega) (by omega) ?_; intro v10 u10 hown10 happ10; replace hown10 := own_cast (n' := al.length) (xs' := bytes al) hown10 (by rw [← HAE.out]; simp) (by rw [← HAE.out]; simp [bytes]); obtain ⟨v10a, v10c, rfl⟩ := own_form hown10; have Q10 : Only [] b7 u10 := Q9.app happ10 (fun k hk => .inr (hown9.lt k hk).1)))
  clear Q8 Q9 hown9 happ9 happ10 ob8 b8 hb8 z8 z9 P8
  have B10 : Bs u10 (.slice v10a al.length v10c) al := Cs.of_own hown10 (by omega)
  clear hown10
  have P10 : Only [] W u10 := P7.trans0 Q10
  have Q56 := (p6.trans0 p7).trans0 Q10
  have Q45 := p5.trans0 Q56
  have Q67 := p7.trans0 Q10
  have SS := hid (fun V (h : Only [] u10 V) => (show (V.cell? ⟨u4.heap.size, 0, none⟩ = some (.slice f4a f.length f4c) ∧ V.cell? ⟨u4.heap.size, 1, none⟩ = some (.slice l4a lb.length l4c) ∧ V.cell? ⟨u5.heap.size, 0, none⟩ = some (.slice f5a al.length f5c) ∧ V.cell? ⟨u5.heap.size, 1, none⟩ = some (.slice none 0 0) ∧ V.cell? ⟨u6.heap.size, 0, none⟩ = some (.slice f6a cr.length f6c) ∧ V.cell? ⟨u6.heap.size, 1, none⟩ = some (.slice none 0 0) ∧ V.cell? ⟨u7.heap.size, 0, none⟩ = some (.slice f7a al.length f7c) ∧ V.cell? ⟨u7.heap.size, 1, none⟩ = some (.slice none 0 0) ∧ V.cell? ⟨w.heap.size, 0, none⟩ = some (.slice fa f.length fc) ∧ V.cell? ⟨w.heap.size, 1, none⟩ = some (.slice la l.length lc)) from
    ⟨(Q45.trans0 h).cell k40 (by simp), (Q45.trans0 h).cell k41 (by simp), (Q56.trans0 h).cell k50 (by simp), (Q56.trans0 h).cell k51 (by simp), (Q67.trans0 h).cell k60 (by simp), (Q67.trans0 h).cell k61 (by simp), (Q10.trans0 h).cell k70 (by simp), (Q10.trans0 h).cell k71 (by simp), (P10.trans0 h).cell c0W (by simp), (P10.trans0 h).cell c1W (by simp)⟩))
  have F4V := own_only0 F4b Q45
  have L4V := own_only0 L4b Q45
  have F5V := own_only0 F5b Q56
  have F6V := own_only0 F6b Q67
  have F7V := own_only0 F7b Q10
  have emp := fun V => Bs.empty (w := V) (a := none) (cap := 0) (by unfold maxLen; omega)
  have hf10 := hfW.kept0 P10
  have hl10 := hlW.kept0 P10
  have hb10 := hbW.kept0 P10
  have S1 := hid (fun V vb (h : Only [] u10 V) (hv : Bs V vb lb) => same12_any V _ _ _ _ f lb (Cs.of_own (own_only0 F4V h) (by omega)) (Cs.of_own (own_only0 L4V h) (by omega)) (hf10.kept0 h) hv)
  have S2 := hid (fun V (h : Only [] u10 V) => same12_any V _ _ _ _ al [] (Cs.of_own (own_only0 F5V h) (by omega)) (emp V) (B10.kept0 h) (emp V))
  have S3 := hid (fun V cv (h : Only [] u10 V) (hv : Bs V cv cr) => same12_any V _ _ _ _ cr [] (Cs.of_own (own_only0 F6V h) (by omega)) (emp V) hv (emp V))
  have S4 := hid (fun V (h : Only [] u10 V) => same12_any V _ _ _ _ al [] (Cs.of_own (own_only0 F7V h) (by omega)) (emp V) (B10.kept0 h) (emp V))
  have rc := hid (fun V (h : Only [] u10 V) => rch.out V (P10.trans0 h))
  have cd : Only [] u10 u10.drew := (Only.refl [] u10).drew
  have BL := hid (fun V vb (h : Rw V u10.heap.size 5 1 vb (l.length + b.length) (bytes l ++ bytes b)) => h.bs (l := lb) (by rw [HLB.out]; simp) (by rw [HLB.out]; simp [bytes]) (by omega))
  clear rch c0W c1W hfW hlW emp
  go_wp2_with fail
  go_region_held3 (fun V => V.cell? ⟨u4.heap.size, 0, none⟩ = some (.slice f4a f.length f4c) ∧ V.cell? ⟨u4.heap.size, 1, none⟩ = some (.slice l4a lb.length l4c) ∧ V.cell? ⟨u5.heap.size, 0, none⟩ = some (.slice f5a al.length f5c) ∧ V.cell? ⟨u5.heap.size, 1, none⟩ = some (.slice none 0 0) ∧ V.cell? ⟨u6.heap.size, 0, none⟩ = some (.slice f6a cr.length f6c) ∧ V.cell? ⟨u6.heap.size, 1, none⟩ = some (.slice none 0 0) ∧ V.cell? ⟨u7.heap.size, 0, none⟩ = some (.slice f7a al.length f7c) ∧ V.cell? ⟨u7.heap.size, 1, none⟩ = some (.slice none 0 0) ∧ V.cell? ⟨w.heap.size, 0, none⟩ = some (.slice fa f.length fc) ∧ V.cell? ⟨w.heap.size, 1, none⟩ = some (.slice la l.length lc))
    (first | exact SS.out _ cd | exact SS.out _ (cd.alloc _) | exact SS.out _ d1 | exact SS.out _ d2 | exact SS.out _ d3 | exact SS.out _ d4 | exact SS.out _ d5 | exact SS.out _ d6 | exact SS.out _ d7)
    (first
    | ((refine step_app0 (by rfl) _ _ 22 (by rfl) u10.heap.size 5 1 1 el_u8 (by rfl) rw_built (by rfl) (hl10.kept0 (cd.alloc _)) (bytes_one l) (by omega) (by omega) (Only.size (bs := []) (cd.alloc _)) ?_); intro va wa owna appa; rw [Nat.zero_add, List.nil_append] at owna; have d1 : Only [] u10 wa := (cd.alloc _).trans0 appa.fresh; obtain ⟨ea, ec, rfl⟩ := owna.form)
    | ((refine step_app0 (by rfl) _ _ 22 (by rfl) u10.heap.size 5 1 1 el_u8 (by rfl) owna (by rfl) (hb10.kept0 d1) (bytes_one b) (by omega) (by omega) d1.size ?_); intro vb wb ownb appb; have d2 : Only [] u10 wb := d1.app0 appb (fun i hi => .inr (owna.lt i hi).1); have bl := BL.out _ _ ownb; obtain ⟨ga, gc, rfl⟩ := ownb.form)
    | (go_at_call 14; ((with_reducible refine (S1.out _ _ d2 bl).mono ?_); rintro e V1 ⟨rfl, t1⟩; have d3 := d2.trans0 t1))
    | (go_at_call 14; ((with_reducible refine (S2.out _ d3).mono ?_); rintro e V2 ⟨rfl, t2⟩; have d4 := d3.trans0 t2))
    | (go_at_call 15; ((with_reducible refine (rc.out _ d4).mono ?_); rintro e V3 ⟨cv, rfl, hcv, t3⟩; have d5 := d4.trans0 t3; have bcv := hcv.bs (by omega); obtain ⟨cva, cvc, rfl⟩ := own_form hcv))
    | (go_at_call 14; ((with_reducible refine (S3.out _ _ d5 bcv).mono ?_); rintro e V4 ⟨rfl, t4⟩; have d6 := d5.trans0 t4))
    | (go_at_call 14; ((with_reducible refine (S4.out _ d6).mono ?_); rintro e V5 ⟨rfl, t5⟩; have d7 := d6.trans0 t5)))
  have cc := SS.out _ d7
  have m40 := cc.1
  have m50 := cc.2.2.1
  have m60 := cc.2.2.2.2.1
  have mc0 := cc.2.2.2.2.2.2.2.2.1
  have mc1 := cc.2.2.2.2.2.2.2.2.2
  have F6W := own_only0 F6V d7
  have F4W := own_only0 F4V d7
  have F5W := own_only0 F5V d7
  have KB6 := hid (bks_lt F6)
  have KB4 := hid (bks_lt F4)
  have KB5 := hid (bks_lt F5)
  have PV := P10.trans0 d7
  have z4 := s4.size
  have z5 := s5.size
  have z6 := s6.size
  have z7 := (o1.trans0 o2).size
  have z8 := oW.size
  have n9l : n9 < W.heap.size := lt_cell x0
  have wl : w.heap.size < w1.heap.size := wl0.out
  have z9 := o2.size
  have x0V := PV.cell x0 (by simp)
  have x1V := PV.cell x1 (by simp)
  clear cc SS S1 S2 S3 S4 rc BL d1 d2 d3 d4 d5 d6 t1 t2 t3 t4 t5 bl bcv hcv owna ownb appa appb F4V F5V F6V F7V L4V F4b L4b F5b F6b F7b B10 hf10 hl10 hb10 cd k40 k41 k50 k51 k60 k61 k70 k71 P10 Q10 Q45 Q56 Q67 F4 F5 F6 HAE HLB HKP P5 P6 P7 p4 p5 p6 p7 s7 ff ob4 ob5 ob6 ob7 x0 x1
  go_wp2_with fail
  go_loopw [101] (fun i wr => ∃ (k : Nat) (z : List UInt8), k ≤ cr.length ∧ i = .int .i64 k ∧ Hid (z.length = cr.length) ∧ Hid (wr.ownsRow b5.heap.size 5 1 (.slice f6a cr.length f6c) cr.length (bytes z)) ∧ Only (bks (.slice f6a cr.length f6c)) V5 wr) (fun i _ => cr.length - (intOf i).toNat)
  case atStart => exact ⟨0, cr, Nat.zero_le _, rfl, hid rfl, hid F6W, Only.refl _ _⟩
  case round =>
    obtain ⟨k, z, hk, rfl, hz, hown, ho⟩ := hrel
    have dr := ho.cell m60 (fun hm => by have := KB6.out _ hm; simp only at this; omega)
    by_cases hlt : k < cr.length
    · obtain ⟨g, gc, he, _, _, _, _, hcell⟩ := own_at hown.out (by omega)
      simp only [Value.slice.injEq, true_and] at he
      have he1 := he.1
      have hzk : k < z.length := by rw [hz.out]; exact hlt
      obtain ⟨p1, p2⟩ := hcell k (vU8 z[k]) (bytes_get hzk)
      obtain ⟨x, hx⟩ : ∃ x, x = z[k] := ⟨_, rfl⟩
      rw [← hx] at p1
      have hown' := hown.out
      rw [he1] at hown'
      have hset := own_set hown' hlt (.int .u8 (bits .xor .u8 (x.toNat : Int) 1))
      have hxx : Value.int .u8 (bits .xor .u8 (x.toNat : Int) 1) = vU8 (x ^^^ 1) := congrArg (Value.int .u8) (xor_u8 x 1)
      have hset2 : (wr.setCell ⟨g, k, none⟩ (.int .u8 (bits .xor .u8 (x.toNat : Int) 1))).ownsRow b5.heap.size 5 1 (.slice f6a cr.length f6c) cr.length (bytes (z.set k (x ^^^ 1))) := by
        rw [he1]
        exact own_cast hset rfl (by rw [hxx, bytes_set])
      replace hset2 := hid hset2
      have hgK := hid (show g ∈ bks (.slice f6a cr.length f6c) by rw [he1]; simp [bks, Value.ownBlock])
      rw [he1] at dr
      clear he he1 hown hown' hcell hset hxx hx
      go_wp2
      go_roundw
      case rel => exact ⟨k + 1, z.set k (x ^^^ 1), by omega, by go_num, hid (by rw [List.length_set]; exact hz.out), hset2, ho.setCell (.inl hgK.out) _⟩
      case measure => simp [intOf]; omega
    · obtain rfl : k = cr.length := by omega
      clear dr hown hz
      rename World => Y1
      rename Only _ V5 Y1 => OY1
      have m40a := OY1.cell m40 (fun hm => by have := KB6.out _ hm; simp only at this; omega)
      have m50a := OY1.cell m50 (fun hm => by have := KB6.out _ hm; simp only at this; omega)
      have mc0a := OY1.cell mc0 (fun hm => by have := KB6.out _ hm; simp only at this; omega)
      have mc1a := OY1.cell mc1 (fun hm => by have := KB6.out _ hm; simp only at this; omega)
      have x0a := OY1.cell x0V (fun hm => by have := KB6.out _ hm; simp only at this; omega)
      have x1a := OY1.cell x1V (fun hm => by have := KB6.out _ hm; simp only at this; omega)
      have F4X := own_only F4W OY1 (fun k hk hm => by have := KB6.out k hm; have := KB4.out k (by simpa [bks] using hk); omega)
      have F5X := own_only F5W OY1 (fun k hk hm => by have := KB6.out k hm; have := KB5.out k (by simpa [bks] using hk); omega)
      have PA := PV.trans OY1 (ds := []) (by simp) (fun k hk => .inr (by have := KB6.out k hk; omega))
      clear m40 m50 m60 mc0 mc1 x0V x1V F6W F4W F5W PV
      go_wp2_with fail
      go_loopw [115] (fun i wr => ∃ (k : Nat) (z : List UInt8), k ≤ f.length ∧ i = .int .i64 k ∧ Hid (z.length = f.length) ∧ Hid (wr.ownsRow W.heap.size 5 1 (.slice f4a f.length f4c) f.length (bytes z)) ∧ Only (bks (.slice f4a f.length f4c)) Y1 wr) (fun i _ => f.length - (intOf i).toNat)
      case atStart => exact ⟨0, f, Nat.zero_le _, rfl, hid rfl, hid F4X, Only.refl _ _⟩
      case round =>
        obtain ⟨k, z, hk, rfl, hz, hown, ho⟩ := hrel
        have dr := ho.cell m40a (fun hm => by have := KB4.out _ hm; simp only at this; omega)
        by_cases hlt : k < f.length
        · obtain ⟨g, gc, he, _, _, _, _, hcell⟩ := own_at hown.out (by omega)
          simp only [Value.slice.injEq, true_and] at he
          have he1 := he.1
          have hzk : k < z.length := by rw [hz.out]; exact hlt
          obtain ⟨p1, p2⟩ := hcell k (vU8 z[k]) (bytes_get hzk)
          obtain ⟨x, hx⟩ : ∃ x, x = z[k] := ⟨_, rfl⟩
          rw [← hx] at p1
          have hown' := hown.out
          rw [he1] at hown'
          have hset := own_set hown' hlt (.int .u8 (bits .xor .u8 (x.toNat : Int) 1))
          have hxx : Value.int .u8 (bits .xor .u8 (x.toNat : Int) 1) = vU8 (x ^^^ 1) := congrArg (Value.int .u8) (xor_u8 x 1)
          have hset2 : (wr.setCell ⟨g, k, none⟩ (.int .u8 (bits .xor .u8 (x.toNat : Int) 1))).ownsRow W.heap.size 5 1 (.slice f4a f.length f4c) f.length (bytes (z.set k (x ^^^ 1))) := by
            rw [he1]
            exact own_cast hset rfl (by rw [hxx, bytes_set])
          replace hset2 := hid hset2
          have hgK := hid (show g ∈ bks (.slice f4a f.length f4c) by rw [he1]; simp [bks, Value.ownBlock])
          rw [he1] at dr
          clear he he1 hown hown' hcell hset hxx hx
          go_wp2
          go_roundw
          case rel => exact ⟨k + 1, z.set k (x ^^^ 1), by omega, by go_num, hid (by rw [List.length_set]; exact hz.out), hset2, ho.setCell (.inl hgK.out) _⟩
          case measure => simp [intOf]; omega
        · obtain rfl : k = f.length := by omega
          clear dr hown hz
          rename World => Y2
          rename Only _ Y1 Y2 => OY2
          have m50b := OY2.cell m50a (fun hm => by have := KB4.out _ hm; simp only at this; omega)
          have mc0b := OY2.cell mc0a (fun hm => by have := KB4.out _ hm; simp only at this; omega)
          have mc1b := OY2.cell mc1a (fun hm => by have := KB4.out _ hm; simp only at this; omega)
          have x0b := OY2.cell x0a (fun hm => by have := KB4.out _ hm; simp only at this; omega)
          have x1b := OY2.cell x1a (fun hm => by have := KB4.out _ hm; simp only at this; omega)
          have F5Y := own_only F5X OY2 (fun k hk hm => by have := KB4.out k hm; have := KB5.out k (by simpa [bks] using hk); omega)
          have PB := PA.trans OY2 (ds := []) (by simp) (fun k hk => .inr (by have := KB4.out k hk; omega))
          clear m40a m50a mc0a mc1a x0a x1a F4X F5X PA
          go_wp2_with fail
          go_loopw [129] (fun i wr => ∃ (k : Nat) (z : List UInt8), k ≤ al.length ∧ i = .int .i64 k ∧ Hid (z.length = al.length) ∧ Hid (wr.ownsRow b4.heap.size 5 1 (.slice f5a al.length f5c) al.length (bytes z)) ∧ Only (bks (.slice f5a al.length f5c)) Y2 wr) (fun i _ => al.length - (intOf i).toNat)
          case atStart => exact ⟨0, al, Nat.zero_le _, rfl, hid rfl, hid F5Y, Only.refl _ _⟩
          case round =>
            obtain ⟨k, z, hk, rfl, hz, hown, ho⟩ := hrel
            have dr := ho.cell m50b (fun hm => by have := KB5.out _ hm; simp only at this; omega)
            by_cases hlt : k < al.length
            · obtain ⟨g, gc, he, _, _, _, _, hcell⟩ := own_at hown.out (by omega)
              simp only [Value.slice.injEq, true_and] at he
              have he1 := he.1
              have hzk : k < z.length := by rw [hz.out]; exact hlt
              obtain ⟨p1, p2⟩ := hcell k (vU8 z[k]) (bytes_get hzk)
              obtain ⟨x, hx⟩ : ∃ x, x = z[k] := ⟨_, rfl⟩
              rw [← hx] at p1
              have hown' := hown.out
              rw [he1] at hown'
              have hset := own_set hown' hlt (.int .u8 (bits .xor .u8 (x.toNat : Int) 1))
              have hxx : Value.int .u8 (bits .xor .u8 (x.toNat : Int) 1) = vU8 (x ^^^ 1) := congrArg (Value.int .u8) (xor_u8 x 1)
              have hset2 : (wr.setCell ⟨g, k, none⟩ (.int .u8 (bits .xor .u8 (x.toNat : Int) 1))).ownsRow b4.heap.size 5 1 (.slice f5a al.length f5c) al.length (bytes (z.set k (x ^^^ 1))) := by
                rw [he1]
                exact own_cast hset rfl (by rw [hxx, bytes_set])
              replace hset2 := hid hset2
              have hgK := hid (show g ∈ bks (.slice f5a al.length f5c) by rw [he1]; simp [bks, Value.ownBlock])
              rw [he1] at dr
              clear he he1 hown hown' hcell hset hxx hx
              go_wp2
              go_roundw
              case rel => exact ⟨k + 1, z.set k (x ^^^ 1), by omega, by go_num, hid (by rw [List.length_set]; exact hz.out), hset2, ho.setCell (.inl hgK.out) _⟩
              case measure => simp [intOf]; omega
            · obtain rfl : k = al.length := by omega
              clear dr hown hz
              rename World => Y3
              rename Only _ Y2 Y3 => OY3
              have mc0c := OY3.cell mc0b (fun hm => by have := KB5.out _ hm; simp only at this; omega)
              have mc1c := OY3.cell mc1b (fun hm => by have := KB5.out _ hm; simp only at this; omega)
              have x0c := OY3.cell x0b (fun hm => by have := KB5.out _ hm; simp only at this; omega)
              have x1c := OY3.cell x1b (fun hm => by have := KB5.out _ hm; simp only at this; omega)
              have PC := PB.trans OY3 (ds := []) (by simp) (fun k hk => .inr (by have := KB5.out k hk; omega))
              clear m50b mc0b mc1b x0b x1b F5Y PB
              have hd3 := (O3.trans0 PC)
              have sm := hid (same12_any Y3 _ _ _ _ f l (X0.kept0 PC) (X1.kept0 PC) (hf.kept0 hd3) (hl.kept0 hd3))
              go_wp2_with fail
              refine sm.out.mono ?_
              rintro e v9 ⟨rfl, t9⟩
              go_wp2
              go_ret
              exact ⟨rfl, hd3.trans0 t9⟩
end Go.Proofs.Ytlcfmocojakhpaa.Sh
