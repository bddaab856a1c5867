/- Texts of this proof, merged: KpX, KpY, KpZ, KqA, ReadK. -/
import Derived.Test.YtnlmeaijnfjakaaZ5
import Derived.Test.YtnlmeaijnfjakaaRead
import Derived.Lib.SmallJoins
import Derived.Deep.Slices
import Derived.ChangeArms
/- What a keyper has: told: walked. A nil keyper. -/
namespace Go.Proofs.Ytnlmeaijnfjakaa.Sh
set_option linter.unusedSimpArgs false
set_option linter.unusedVariables false
open Go Go.RowKit

theorem neq_some8 (p : Addr) (n c : Nat) (w : World) : (binOp .neq 27 (.slice (some p) n c) (.slice none 0 0)).run Try.prog w = .ok (.bool true) w := by kernel_rfl
theorem neq_none8 (w : World) : (binOp .neq 27 (.slice none 0 0) (.slice none 0 0)).run Try.prog w = .ok (.bool false) w := by kernel_rfl

section
variable (W : World) (k : Nat) (rs : List (List UInt8)) (B : List Nat)
set_option maxRecDepth 20000 in
set_option maxHeartbeats 1600000 in
theorem mlen_any (h : KB W k rs B) :
    Calls Try.prog 18 #[.pointer (some ⟨k, 0, none⟩)] W fun e w' => e = .returned (.int .i64 ((openK rs).sh.length : Int)) ∧ w' = W := by
  obtain ⟨x, mb, ls, ss, hK, _⟩ := h
  have k1 := hK.c1
  have hlen := fun ty => hK.shs.len ty
  obtain ⟨n, hn⟩ : ∃ n, n = (openK rs).sh.length := ⟨_, rfl⟩
  rw [← hn] at hlen ⊢
  clear hn hK
  go_enter Try.func18, Try.ntmps18
  go_wp2
  go_ret
  exact ⟨rfl, rfl⟩

set_option maxRecDepth 20000 in
set_option maxHeartbeats 1600000 in
theorem mslot_any (h : KB W k rs B) :
    Calls Try.prog 24 #[.pointer (some ⟨k, 0, none⟩)] W fun e w' => e = .returned (.tuple #[.int .u64 ((openK rs).slot : Int), .bool (openK rs).told]) ∧ Only [] W w' := by
  obtain ⟨x, mb, ls, ss, hK, _⟩ := h
  have k3 := hK.c3.1
  have k4 := hK.c4.1
  obtain ⟨n, hn⟩ : ∃ n, n = (openK rs).slot := ⟨_, rfl⟩
  obtain ⟨t, ht⟩ : ∃ t, t = (openK rs).told := ⟨_, rfl⟩
  rw [← hn] at k3 ⊢
  rw [← ht] at k4 ⊢
  clear hn ht hK
  have od : Only [] W W.drew := (Only.refl [] W).drew
  go_enter Try.func24, Try.ntmps24
  go_wp2_with fail
  go_region_held3 (fun w' => w'.cell? ⟨k, 3, none⟩ = some (.int .u64 (n : Int)) ∧ w'.cell? ⟨k, 4, none⟩ = some (.bool t)) (exact ⟨k3, k4⟩) (fail)
  go_wp2
  go_ret2
  exact ⟨rfl, od⟩

set_option maxRecDepth 20000 in
set_option maxHeartbeats 1600000 in
theorem mdisk_any (h : KB W k rs B) (hf : (flatL rs).length ≤ 400000) :
    Calls Try.prog 19 #[.pointer (some ⟨k, 0, none⟩)] W fun e w' => ∃ fv lv, e = .returned (dskV fv lv) ∧ Fresh W w' fv (flatL rs) ∧ Fresh W w' lv [] ∧ Only [] W w' := by
  obtain ⟨x, mb, ls, ss, hK, _⟩ := h
  obtain ⟨w1, hw1⟩ : ∃ w1, w1 = W.alloc (Obj.cells #[.slice none 0 0, .slice none 0 0] 29) := ⟨_, rfl⟩
  have o1 : Only [] W w1 := by rw [hw1]; exact (Only.refl [] W).alloc _
  have hs1 : w1.heap.size = W.heap.size + 1 := by rw [hw1]; simp
  have r0 : w1.cell? ⟨W.heap.size, 0, none⟩ = some (.slice none 0 0) ∧ w1.frozen? ⟨W.heap.size, 0, none⟩ = false := by rw [hw1]; constructor <;> simp [go_sem]
  have r1 : w1.cell? ⟨W.heap.size, 1, none⟩ = some (.slice none 0 0) ∧ w1.frozen? ⟨W.heap.size, 1, none⟩ = false := by rw [hw1]; constructor <;> simp [go_sem]
  have k0 := hK.c0
  have hd := hid (ldisk_any w1 x _ [] rs ls (hK.log.kept0 o1) (by simp; omega))
  obtain ⟨F, hF⟩ : ∃ F, F = flatL rs := ⟨_, rfl⟩
  rw [← hF] at hd ⊢
  clear hK hF hf
  go_enter Try.func19, Try.ntmps19
  go_wp2_with fail
  rw [← hw1]
  clear hw1
  refine hd.out.mono ?_
  rintro e w2 ⟨fv, lv, rfl, hf2, hl2, q2⟩
  obtain ⟨va, vc, rfl⟩ := own_form hf2
  obtain ⟨ua, uc, rfl⟩ := own_form hl2
  obtain ⟨p0, p1⟩ := cell_kept q2 (by simp) r0
  obtain ⟨p2, p3⟩ := cell_kept q2 (by simp) r1
  have hO : Only [W.heap.size] w2 ((w2.setCell ⟨W.heap.size, 0, none⟩ (.slice va F.length vc)).setCell ⟨W.heap.size, 1, none⟩ (.slice ua 0 uc)) := ((Only.refl _ w2).setCell (.inl (by simp)) _).setCell (.inl (by simp)) _
  have g2 := hid (own_lower (own_only hf2 hO (fun k hk => by have := (hf2.lt k hk).1; simp; omega)) (show W.heap.size ≤ w1.heap.size by omega))
  have g3 := hid (own_lower (own_only hl2 hO (fun k hk => by have := (hl2.lt k hk).1; simp; omega)) (show W.heap.size ≤ w1.heap.size by omega))
  have hfin := (o1.trans0 q2).trans hO (ds := []) (by simp) (by simp)
  clear hO hf2 hl2 hd
  go_wp2
  exact bodyPost_ret (v := dskV (.slice va F.length vc) (.slice ua 0 uc)) (by simp [results, Try.results19, go_sem, p0, p2]) rfl ⟨_, _, rfl, g2.out, g3.out, hfin⟩

set_option maxRecDepth 20000 in
set_option maxHeartbeats 1600000 in
theorem mhas_any (h : KB W k rs B) (d : List UInt8) (hd : d.length = 32) :
    Calls Try.prog 12 #[.pointer (some ⟨k, 0, none⟩), vD d] W fun e w' => e = .returned (.bool (getS (openK rs).sh d).isSome) ∧ Only [] W w' := by
  obtain ⟨x, mb, ls, ss, hK, _⟩ := h
  have hD := Dv.boxed W d hd 35
  obtain ⟨w1, hw1⟩ : ∃ w1, w1 = W.alloc (Obj.cells (bytes d).toArray 35) := ⟨_, rfl⟩
  have o1 : Only [] W w1 := by rw [hw1]; exact (Only.refl [] W).alloc _
  rw [← hw1] at hD
  obtain ⟨g, hg⟩ : ∃ g, g = W.heap.size := ⟨_, rfl⟩
  rw [← hg] at hD
  have hrg := hD.range
  have hu := Try.underlying35
  have hin : (Try.prog.info? 35).map (·.size) = some (bytes d).length := by rw [dig_info]; simp [bytes, hd]
  have k1 := (hK.kept0 o1).c1
  have od : Only [] w1 w1.drew := (Only.refl [] w1).drew
  have HO := hid (o1.trans0 od)
  have hn8 := neq_none8
  have hs8 := neq_some8
  have hpn : ∀ (w : World), (binOp .neq 25 (.pointer (some ⟨k, 0, none⟩)) (.pointer none)).run Try.prog w = .ok (.bool true) w := fun w => by kernel_rfl
  rw [show vD d = .agg (bytes d).toArray from rfl]
  cases hgs : getS (openK rs).sh d with
  | none =>
    have lk := hid (show (Instr.lookup 75 (.map (some mb)) (.agg (bytes d).toArray) false).run Try.prog w1.drew = .ok (.slice none 0 0) w1.drew from ((hK.kept0 o1).shs.kept0 od).look_none hd hgs false)
    clear hgs hK hd
    go_enter Try.func12, Try.ntmps12
    go_wp2_with fail
    rw [← hw1, ← hg]
    clear hw1 hg
    go_region_held3 (fun V => V.cell? ⟨k, 1, none⟩ = some (.map (some mb)) ∧ V.rangeAt g 0 (bytes d) ∧ (Instr.lookup 75 (.map (some mb)) (.agg (bytes d).toArray) false).run Try.prog V = .ok (.slice none 0 0) V) (exact ⟨k1, hrg, lk.out⟩) (fail)
    go_wp2
    go_ret
    exact ⟨rfl, HO.out⟩
  | some t =>
    obtain ⟨v, hY, hlk⟩ := (hK.kept0 o1).shs.look_some (open_inv rs).keys hd hgs
    have ht : 1 ≤ t.length := ((open_inv rs).len _ (getS_some hgs)).2.1
    obtain ⟨b, o, c, rfl, _⟩ := hY.1.form (by omega)
    have lk := hid (show (Instr.lookup 75 (.map (some mb)) (.agg (bytes d).toArray) false).run Try.prog w1.drew = .ok (.slice (some ⟨b, o, none⟩) t.length c) w1.drew from hlk _ od false)
    obtain ⟨n, hn⟩ : ∃ n, n = t.length := ⟨_, rfl⟩
    rw [← hn] at lk
    clear hgs hK hd hY hlk hn ht
    go_enter Try.func12, Try.ntmps12
    go_wp2_with fail
    rw [← hw1, ← hg]
    clear hw1 hg
    go_region_held3 (fun V => V.cell? ⟨k, 1, none⟩ = some (.map (some mb)) ∧ V.rangeAt g 0 (bytes d) ∧ (Instr.lookup 75 (.map (some mb)) (.agg (bytes d).toArray) false).run Try.prog V = .ok (.slice (some ⟨b, o, none⟩) n c) V) (exact ⟨k1, hrg, lk.out⟩) (fail)
    go_wp2
    go_ret
    exact ⟨rfl, HO.out⟩
end

/-! a nil keyper -/
section
variable (w : World)
theorem nil_len : Calls Try.prog 18 #[.pointer none] w fun e w' => e = .returned (.int .i64 0) ∧ w' = w := by
  go_enter Try.func18, Try.ntmps18
  go_wp2
  go_ret
  exact ⟨rfl, rfl⟩
theorem nil_slot : Calls Try.prog 24 #[.pointer none] w fun e w' => e = .returned (.tuple #[.int .u64 0, .bool false]) ∧ w' = w := by
  go_enter Try.func24, Try.ntmps24
  go_wp2
  go_ret2
  exact ⟨rfl, rfl⟩
set_option maxRecDepth 20000 in
theorem nil_disk : Calls Try.prog 19 #[.pointer none] w fun e w' => e = .returned (dskV (.slice none 0 0) (.slice none 0 0)) ∧ Only [] w w' := by
  have HO := hid ((Only.refl [] w).alloc (Obj.cells #[.slice none 0 0, .slice none 0 0] 29))
  go_enter Try.func19, Try.ntmps19
  go_wp2
  exact bodyPost_ret (v := dskV (.slice none 0 0) (.slice none 0 0)) (by simp [results, Try.results19, go_sem]) rfl ⟨rfl, HO.out⟩
set_option maxRecDepth 20000 in
theorem nil_has (d : List UInt8) (hd : d.length = 32) : Calls Try.prog 12 #[.pointer none, vD d] w fun e w' => e = .returned (.bool false) ∧ Only [] w w' := by
  have hD := Dv.boxed w d hd 35
  have HO := hid ((Only.refl [] w).alloc (Obj.cells (bytes d).toArray 35))
  rw [show vD d = .agg (bytes d).toArray from rfl]
  go_enter Try.func12, Try.ntmps12
  go_wp2_with fail
  have hpn : ∀ (w : World), (binOp .neq 25 (.pointer none) (.pointer none)).run Try.prog w = .ok (.bool false) w := fun w => by kernel_rfl
  go_quiet (fail)
  go_wp2
  go_ret
  exact ⟨rfl, HO.out.trans0 (only_drewN _ _ _)⟩
theorem nil_forget (v : Value) : Calls Try.prog 17 #[.pointer none, v] w fun e w' => e = .returned (.tuple #[.int .i64 0, .int .i64 1]) ∧ w' = w := by
  go_enter Try.func17, Try.ntmps17
  go_wp2
  go_ret2
  exact ⟨rfl, rfl⟩
theorem nil_commit (s : Int) (v : Value) : Calls Try.prog 15 #[.pointer none, .int .u64 s, v] w fun e w' => e = .returned (.tuple #[.slice none 0 0, .int .i64 1]) ∧ w' = w := by
  go_enter Try.func15, Try.ntmps15
  go_wp2
  go_ret2
  exact ⟨rfl, rfl⟩
set_option maxRecDepth 20000 in
theorem nil_keep (d : List UInt8) (hd : d.length = 32) (v : Value) : Calls Try.prog 14 #[.pointer none, vD d, v] w fun e w' => e = .returned (.int .i64 1) ∧ Only [] w w' := by
  have HO := hid ((Only.refl [] w).alloc (Obj.cells (bytes d).toArray 35))
  rw [show vD d = .agg (bytes d).toArray from rfl]
  go_enter Try.func14, Try.ntmps14
  go_wp2
  go_ret
  exact ⟨rfl, HO.out⟩
end
end Go.Proofs.Ytnlmeaijnfjakaa.Sh
/- The law's names; its limits; awake: walked. -/
namespace Go.Proofs.Ytnlmeaijnfjakaa.Sh
set_option linter.unusedSimpArgs false
set_option linter.unusedVariables false
open Go Go.RowKit

/-- The name of a byte. -/
def nm (b : UInt8) : List UInt8 := b :: (List.replicate 30 0 ++ [1])
theorem nm_len (b : UInt8) : (nm b).length = 32 := by simp [nm]
theorem nm_inj {a b : UInt8} (h : nm a = nm b) : a = b := by
  simp only [nm, List.cons.injEq] at h
  exact h.1
theorem nms_inj : ∀ {a b : List UInt8}, a.map nm = b.map nm → a = b
  | [], [], _ => rfl
  | [], _ :: _, h => by simp at h
  | _ :: _, [], h => by simp at h
  | x :: a, y :: b, h => by
    simp only [List.map_cons, List.cons.injEq] at h
    rw [nm_inj h.1, nms_inj h.2]

theorem wpList_build2 {P : Program} {ops : Array Oper} {rest : List Oper} {o : Oper} {a : Act} {Q : Exit → Act → World → Prop} {w : World} (hgd : o.guard = none) (t : TypeId) (x y : Operand) (ho : o.op = .build t #[(0, x), (31, y)]) {u v r : Value} (hx : a.eval x = u) (hy : a.eval y = v)
    (hr : (Instr.build t #[(0, u), (31, v)]).run P w = .ok r w) (h : wpList P ops Q rest (a.put o.dst r) w) : wpList P ops Q (o :: rest) a w := by
  refine wpList_plain hgd fun K hK => ?_
  unfold Oper.wp execOp
  simp only [ho, hx, hy, hr, List.map_toArray, List.map_cons, List.map_nil, Sem.run_bind, Sem.run_pure, Result.andThen_ok]
  exact hK _ _ h
theorem build_nm (b : UInt8) (w : World) : (Instr.build 35 #[(0, vU8 b), (31, .int .u8 1)]).run Try.prog w = .ok (.agg (bytes (nm b)).toArray) w := by kernel_rfl

set_option maxRecDepth 20000 in
set_option maxHeartbeats 1600000 in
theorem name_any (w : World) (b : UInt8) :
    Calls Try.prog 13 #[vU8 b] w fun e w' => e = .returned (vD (nm b)) ∧ Only [] w w' := by
  go_enter Try.func13, Try.ntmps13
  go_wp2_with (first
    | (refine wpList_alloc_run (by rfl) 35 (by rfl) (alloc_dig _) ?_)
    | (refine wpList_build2 (by rfl) 35 _ _ (by rfl) (by rfl) (by rfl) (build_nm b _) ?_)
    | (refine wpList_store_dig (by rfl) _ _ (by rfl) w.heap.size (nm b) _ (by rfl) (by rfl) rfl (nm_len b) (Dv.fresh w 35).there ?_; intro w2 hD2 hp2))
  refine bodyPost_ret (results_dig rfl _ _ rfl hD2) rfl ?_
  exact ⟨rfl, ((Only.refl [] w).alloc _).trans hp2 (by simp) (by simp)⟩
end Go.Proofs.Ytnlmeaijnfjakaa.Sh
/- The law's names, made: walked. A keyper that is newer than a world; each call on it. -/
namespace Go.Proofs.Ytnlmeaijnfjakaa.Sh
set_option linter.unusedSimpArgs false
set_option linter.unusedVariables false
open Go Go.RowKit

set_option maxRecDepth 20000 in
set_option maxHeartbeats 1600000 in
theorem names_any (w : World) (v : Value) (l : List UInt8) (hv : Bs w v l) (hl : l.length ≤ 1000) :
    Calls Try.prog 16 #[v] w fun e w' => ∃ u, e = .returned u ∧ OwnD w.heap.size w' u (l.map nm) ∧ Only [] w w' := by
  obtain ⟨a, cap, rfl⟩ := bs_form hv
  go_enter Try.func16, Try.ntmps16
  go_wp2_with fail
  go_loopw [3, 7] (fun ov i wr => ∃ (j : Nat), j ≤ l.length ∧ i = .int .i64 j ∧ OwnD w.heap.size wr ov ((l.take j).map nm) ∧ Only [] w wr) (fun _ i _ => l.length - (intOf i).toNat)
  case atStart => exact ⟨0, Nat.zero_le _, rfl, ⟨World.ownsRow_nil _ _ _ _, by simp⟩, Only.refl _ _⟩
  case round =>
    obtain ⟨j, hj, rfl, hown, ho⟩ := hrel
    obtain ⟨oa, oc, rfl⟩ := own_form hown.1
    have s2 := ho.size
    by_cases hlt : j < l.length
    · obtain ⟨b, o, rfl, hc⟩ := (hv.kept0 ho).at j hlt
      have hts : (l.take (j + 1)).map nm = (l.take j).map nm ++ [nm l[j]] := by rw [List.take_succ_eq_append_getElem hlt, List.map_append]; rfl
      obtain ⟨x, hx⟩ : ∃ x, x = l[j] := ⟨_, rfl⟩
      rw [← hx] at hc hts
      obtain ⟨ids, hids⟩ : ∃ ids, ids = (l.take j).map nm := ⟨_, rfl⟩
      have hil : ids.length = j := by rw [hids]; simp; omega
      rw [← hids] at hown hts
      rw [← hids, hil]
      have hid1 := hid hil
      have HTS := hid hts
      have HN := hid hown
      have hna := hid (name_any wr x)
      clear hx hids hts hil hown
      go_wp2_with fail
      refine hna.out.mono ?_
      rintro e w3 ⟨rfl, q3⟩
      have own3 := HN.out.only q3 (by simp)
      have s3 := q3.size
      have hl32 := nm_len x
      obtain ⟨d, hd⟩ : ∃ d, d = nm x := ⟨_, rfl⟩
      rw [← hd] at hl32 ⊢
      have HD := hid hd
      have own3j := hid own3.1
      have own3k : w3.ownsRow w.heap.size 35 32 (.slice oa j oc) j (ids.flatMap bytes) := by
        have := own3.1
        rw [hid1.out] at this
        exact this
      clear hd hna own3
      go_wp2_with (first
        | (refine wpList_name1 15 d hl32 (by rfl) ?_)
        | (at_builtin; refine wpList_app1 (by rfl) _ _ 42 (by rfl) w.heap.size 35 32 32 el_dig (by rfl) own3k ([d].flatMap bytes) (by rfl) (by simp [bytes, hl32]) (by simpa using bytes_one d) (by omega) (by omega) (by omega) ?_; intro v4 w4 own4 app4))
      have q4 : Only [] w w4 := (ho.trans0 q3).app app4 (fun i hi => .inr (own3k.lt i hi).1)
      obtain ⟨va, vc, rfl⟩ := own_form own4
      go_wp2
      go_roundw
      case rel =>
        refine ⟨j + 1, by omega, by go_num, ⟨own_cast own4 (by simp; omega) ?_, ?_⟩, q4⟩
        · rw [HTS.out, ← HD.out, List.flatMap_append]
        · intro y hy
          obtain ⟨z, _, rfl⟩ := List.mem_map.1 hy
          exact nm_len z
      case measure => simp [intOf]; omega
    · obtain rfl : j = l.length := by omega
      have e : (l.take l.length).map nm = l.map nm := by rw [List.take_length]
      go_wp2
      go_ret
      exact ⟨_, rfl, by rw [← e]; exact hown, ho⟩

/-- The size of what is recorded, behind n calls. -/
def Few (n : Nat) (rs : List (List UInt8)) : Prop := (flatL rs).length ≤ 7000 + 1006 * n ∧ rs.length ≤ 1000 + n
theorem Few.nil : Few 0 [] := ⟨by simp [flatL], by simp⟩
theorem Few.same {n : Nat} {rs : List (List UInt8)} (h : Few n rs) : Few (n + 1) rs := ⟨by have := h.1; omega, by have := h.2; omega⟩
theorem Few.snoc {n : Nat} {rs : List (List UInt8)} {b : List UInt8} (h : Few n rs) (hb : b.length ≤ 1000) : Few (n + 1) (rs ++ [b]) := by
  refine ⟨?_, by have := h.2; simp; omega⟩
  rw [flatL_snoc, List.length_append, frameL_length]
  have := h.1
  omega
theorem Few.mono {n m : Nat} {rs : List (List UInt8)} (h : Few n rs) (hm : n ≤ m) : Few m rs := ⟨by have := h.1; omega, by have := h.2; omega⟩

/-- A keyper at k, with its blocks B, that is newer than w. -/
structure Ky (w W : World) (k : Nat) (rs : List (List UInt8)) (B : List Nat) : Prop where
  kb : KB W k rs B
  new : ∀ i ∈ B, w.heap.size ≤ i
  only : Only [] w W
theorem KB.one {W : World} {k : Nat} {rs : List (List UInt8)} {B : List Nat} (h : KB W k rs B) : ∀ r ∈ rs, 1 ≤ r.length ∧ r.length ≤ 1000 := by
  obtain ⟨_, _, _, _, _, _, _, h6⟩ := h
  exact h6
theorem Ky.kept0 {w W W' : World} {k : Nat} {rs : List (List UInt8)} {B : List Nat} (h : Ky w W k rs B) (ho : Only [] W W') : Ky w W' k rs B := ⟨h.kb.kept0 ho, h.new, h.only.trans0 ho⟩
theorem Ky.away {w W W' : World} {k : Nat} {rs : List (List UInt8)} {B ds : List Nat} (h : Ky w W k rs B) (ho : Only ds W W') (hd : ∀ i ∈ ds, i ∉ B ∧ w.heap.size ≤ i) : Ky w W' k rs B := ⟨h.kb.only ho (fun i hi => (hd i hi).1), h.new, h.only.trans ho (by simp) (fun i hi => .inr (hd i hi).2)⟩
theorem Few.step {n : Nat} {W : World} {k : Nat} {rs rs' : List (List UInt8)} {B : List Nat} (h : Few n rs) (hk : KB W k rs' B) (hc : rs' = rs ∨ ∃ b, rs' = rs ++ [b]) : Few (n + 1) rs' := by
  rcases hc with rfl | ⟨b, rfl⟩
  · exact h.same
  · exact h.snoc (hk.one b (by simp)).2
theorem keepR_case (rs : List (List UInt8)) (d s : List UInt8) : keepR rs d s = rs ∨ ∃ b, keepR rs d s = rs ++ [b] := by
  unfold keepR
  split
  · exact .inr ⟨_, rfl⟩
  · exact .inl rfl
theorem mcommitR_case (rs : List (List UInt8)) (slot : Nat) (ids : List (List UInt8)) : mcommitR rs slot ids = rs ∨ ∃ b, mcommitR rs slot ids = rs ++ [b] := by
  unfold mcommitR
  split
  · exact .inr ⟨_, rfl⟩
  · exact .inl rfl
theorem mforgetE_case (rs ids : List (List UInt8)) : (mforgetE rs ids).2 = rs ∨ ∃ b, (mforgetE rs ids).2 = rs ++ [b] := by
  unfold mforgetE
  split
  · exact .inl rfl
  · simp only
    split
    · exact .inl rfl
    · exact .inr ⟨_, rfl⟩

/-- What a call on a keyper leaves: the keyper, with new blocks; nothing else is changed. -/
def KyPost (w W : World) (k : Nat) (B : List Nat) (rs : List (List UInt8)) (n : Nat) (w' : World) : Prop :=
  ∃ B', Ky w w' k rs B' ∧ (∀ i ∈ B', i ∈ B ∨ W.heap.size ≤ i) ∧ Only B W w' ∧ Few (n + 1) rs

section
variable (w W : World) (k : Nat) (rs : List (List UInt8)) (B : List Nat) (n : Nat)
theorem ky_post {rs' : List (List UInt8)} {w' : World} (h : Ky w W k rs B) (hn : Few n rs) (hk : KB w' k rs' (B ++ newBs W w')) (ho : Only B W w') (hc : rs' = rs ∨ ∃ b, rs' = rs ++ [b]) : KyPost w W k B rs' n w' := by
  have hs := h.only.size
  refine ⟨_, ⟨hk, fun i hi => ?_, h.only.trans ho (by simp) (fun i hi => .inr (h.new i hi))⟩, fun i hi => ?_, ho, hn.step hk hc⟩
  · rcases List.mem_append.1 hi with hi | hi
    · exact h.new i hi
    · have := (mem_newBs.1 hi).1; omega
  · rcases List.mem_append.1 hi with hi | hi
    · exact .inl hi
    · exact .inr (mem_newBs.1 hi).1

theorem ky_open (ho : Only [] w W) (fv lv : Value) (f l : List UInt8) (hf : Bs W fv f) (hl : Bs W lv l) (hlen : f.length + l.length ≤ 500000) :
    Calls Try.prog 11 #[dskV fv lv] W fun e w' => ∃ k B, e = .returned (.pointer (some ⟨k, 0, none⟩)) ∧ Ky w w' k (allL (f ++ l)).1 B ∧ (∀ i ∈ B, W.heap.size ≤ i) ∧ Only [] W w' := by
  refine (kopen_any W fv lv f l hf hl hlen).mono ?_
  rintro e w' ⟨k, rfl, hk, o⟩
  have hs := ho.size
  exact ⟨k, _, rfl, ⟨hk, fun i hi => by have := (mem_newBs.1 hi).1; omega, ho.trans0 o⟩, fun i hi => (mem_newBs.1 hi).1, o⟩

theorem ky_keep (h : Ky w W k rs B) (hn : Few n rs) (hn2 : n ≤ 200) (d : List UInt8) (hd : d.length = 32) (sv : Value) (s : List UInt8) (hs : Bs W sv s) (hsl : s.length ≤ 1000) :
    Calls Try.prog 14 #[.pointer (some ⟨k, 0, none⟩), vD d, sv] W fun e w' => e = .returned (.int .i64 ((keepK (openK rs) d s).1 : Int)) ∧ KyPost w W k B (keepR rs d s) n w' := by
  have h1 := hn.1
  have h2 := hn.2
  refine (mkeep_any W k rs B h.kb d hd sv s hs hsl (by omega) (by omega)).mono ?_
  rintro e w' ⟨rfl, hk, o⟩
  exact ⟨rfl, ky_post w W k rs B n h hn hk o (keepR_case _ _ _)⟩

theorem ky_forget (h : Ky w W k rs B) (hn : Few n rs) (hn2 : n ≤ 200) (u : Value) (ids : List (List UInt8)) (hu : Dgs W u ids) :
    Calls Try.prog 17 #[.pointer (some ⟨k, 0, none⟩), u] W fun e w' => e = .returned (.tuple #[.int .i64 ((mforgetE rs ids).1.1 : Int), .int .i64 ((mforgetE rs ids).1.2 : Int)]) ∧ KyPost w W k B (mforgetE rs ids).2 n w' := by
  have h1 := hn.1
  have h2 := hn.2
  refine (mforget_any W k rs B h.kb u ids hu (by omega) (by omega)).mono ?_
  rintro e w' ⟨rfl, hk, o⟩
  exact ⟨rfl, ky_post w W k rs B n h hn hk o (mforgetE_case _ _)⟩

theorem ky_commit (h : Ky w W k rs B) (hn : Few n rs) (hn2 : n ≤ 200) (slot : Nat) (hslot : slot < 18446744073709551616) (u : Value) (ids : List (List UInt8)) (hu : Dgs W u ids) (huB : ∀ i, u.ownBlock = some i → ids = [] ∨ i ∉ B) :
    Calls Try.prog 15 #[.pointer (some ⟨k, 0, none⟩), .int .u64 (slot : Int), u] W fun e w' => ∃ ov V B', e = .returned (.tuple #[ov, .int .i64 ((commitK (openK rs) slot ids).1.2 : Int)]) ∧ Ky w w' k (mcommitR rs slot ids) B' ∧ OwnBss V w' ov (mcommitL rs slot ids) ∧ W.heap.size ≤ V ∧ (∀ i ∈ B', (i ∈ B ∨ W.heap.size ≤ i) ∧ i < V) ∧ V ≤ w'.heap.size ∧ Only B W w' ∧ Few (n + 1) (mcommitR rs slot ids) := by
  have h1 := hn.1
  have h2 := hn.2
  have hlt := h.kb.lt
  refine (mcommit_any W k rs B h.kb slot hslot u ids hu huB (by omega) (by omega)).mono ?_
  rintro e w' ⟨ov, V, rfl, hk, hO, hV1, hV2, o⟩
  have hs := h.only.size
  refine ⟨ov, V.heap.size, B ++ newBs W V, rfl, ⟨hk, fun i hi => ?_, h.only.trans o (by simp) (fun i hi => .inr (h.new i hi))⟩, hO, hV1, fun i hi => ?_, hV2, o, hn.step hk (mcommitR_case _ _ _)⟩
  · rcases List.mem_append.1 hi with hi | hi
    · exact h.new i hi
    · have := (mem_newBs.1 hi).1; omega
  · rcases List.mem_append.1 hi with hi | hi
    · exact ⟨.inl hi, by have := hlt i hi; omega⟩
    · have := mem_newBs.1 hi
      exact ⟨.inr this.1, this.2⟩
end
end Go.Proofs.Ytnlmeaijnfjakaa.Sh
/- The law's awake: walked. What the records tell behind a call: plain. -/
namespace Go.Proofs.Ytnlmeaijnfjakaa.Sh
set_option linter.unusedSimpArgs false
set_option linter.unusedVariables false
open Go Go.RowKit

theorem openK_keepR (rs : List (List UInt8)) (d s : List UInt8) (hd : d.length = 32) : openK (keepR rs d s) = (keepK (openK rs) d s).2 := by
  unfold keepR
  split
  · rename_i h
    rw [openK_snoc, redo_rec1 _ _ _ hd (keepK_len h).2]
  · rename_i h
    exact (keepK_ne h).symm
theorem commitK_ids {m : Km} {slot : Nat} {ids : List (List UInt8)} (h : (commitK m slot ids).1.1 = true) : ids.length ≤ 8 := by
  unfold commitK at h
  split at h
  · cases h
  · omega
theorem openK_commitR (rs : List (List UInt8)) (slot : Nat) (ids : List (List UInt8)) (hs : slot < 18446744073709551616) (hd : ∀ d ∈ ids, d.length = 32) : openK (mcommitR rs slot ids) = (commitK (openK rs) slot ids).2 := by
  unfold mcommitR
  split
  · rename_i h
    rw [openK_snoc, redo_rec2 _ _ _ hs hd (commitK_ids h)]
  · rename_i h
    exact (commitK_ne (by simpa using h)).symm
theorem openK_forget (rs ids : List (List UInt8)) (hd : ∀ d ∈ ids, d.length = 32) : openK (mforgetE rs ids).2 = if 24 < ids.length then openK rs else (forgetK (openK rs) ids).2 := by
  unfold mforgetE
  split
  · rfl
  · simp only
    split
    · rename_i h
      exact (forgetK_zero h).symm
    · rw [openK_snoc, redo_rec3 _ _ hd (by omega)]

theorem wpList_name2 {ops : Array Oper} {rest : List Oper} {dst : Option Tmp} {ty : TypeId} {pos : String} {after : Array Edge} {a : Act} {w : World} {Q : Exit → Act → World → Prop} (k j : Tmp) (d g : List UInt8) (hd : d.length = 32) (hg : g.length = 32) (hv : a.eval (.tmp k) = vD d) (hu : a.eval (.tmp j) = vD g)
    (h : wpList Try.prog ops Q rest (a.put dst (.slice (some ⟨w.heap.size, 0, none⟩) 2 2)) (w.alloc (.cells ([d, g].flatMap bytes).toArray 35))) :
    wpList Try.prog ops Q ({ dst := dst, op := .buildSlice 42 2 #[(0, .tmp k), (1, .tmp j)], type := ty, pos := pos, after := after, guard := none } :: rest) a w :=
  wpList_names (o := { dst := dst, op := .buildSlice 42 2 #[(0, .tmp k), (1, .tmp j)], type := ty, pos := pos, after := after, guard := none }) rfl 2 #[(0, .tmp k), (1, .tmp j)] rfl [d, g] (by simp [hd, hg]) rfl (by omega) (by omega) (by simp [hv, hu]) h

/-- Names built stand for themselves. -/
theorem names_built (w : World) (ids : List (List UInt8)) (hd : ∀ d ∈ ids, d.length = 32) (hn : ids.length ≤ 1000) : OwnD w.heap.size (w.alloc (.cells (ids.flatMap bytes).toArray 35)) (.slice (some ⟨w.heap.size, 0, none⟩) ids.length ids.length) ids := by
  refine ⟨own_built w (ids.flatMap bytes) 35 32 ids.length ?_ (by unfold maxLen; omega), hd⟩
  induction ids with
  | nil => rfl
  | cons d ids ih =>
    rw [List.flatMap_cons, List.length_append, ih (fun x hx => hd x (by simp [hx])) (by simp at hn; omega), List.length_cons]
    simp [bytes, hd d (by simp)]
    omega

theorem awakeP : keepK (openK []) (nm 1) [7] = (0, ⟨[(nm 1, [7])], 0, [], false⟩) ∧ commitK ⟨[(nm 1, [7])], 0, [], false⟩ 3 [nm 1, nm 2] = ((true, 0), ⟨[(nm 1, [7])], 3, [nm 1, nm 2], true⟩) ∧ commitK ⟨[(nm 1, [7])], 3, [nm 1, nm 2], true⟩ 3 [nm 2] = ((false, 16), ⟨[(nm 1, [7])], 3, [nm 1, nm 2], true⟩) := by
  refine ⟨rfl, ?_, ?_⟩
  · unfold commitK; rw [if_neg (by decide)]; rfl
  · unfold commitK; rw [if_neg (by decide)]; rfl
theorem awakeQ : outL [(nm 1, [7])] [nm 1, nm 2] = [[7], []] := by decide

set_option maxRecDepth 20000 in
set_option maxHeartbeats 1600000 in
theorem awake20_any (w : World) :
    Calls Try.prog 9 #[] w fun e w' => e = .returned (.bool true) ∧ Only [] w w' := by
  have hn0 : ∀ W : World, Bs W (.slice none 0 0) [] := fun W => Bs.empty (by unfold maxLen; omega)
  have hop := ky_open w w (Only.refl [] w) _ _ [] [] (hn0 w) (hn0 w) (by simp)
  rw [show allL ([] ++ []) = ([], 0) from allL_bad _ (by simp [firstL])] at hop
  obtain ⟨p1, p2, p3⟩ := awakeP
  have kp := fun W k B (h : Ky w W k [] B) v (hb : Bs W v [7]) => ky_keep w W k [] B 0 h Few.nil (by omega) (nm 1) (nm_len 1) v [7] hb (by simp)
  have m1 := openK_keepR [] (nm 1) [7] (nm_len 1)
  simp only [p1] at kp m1
  obtain ⟨r1, hr1⟩ : ∃ r, r = keepR [] (nm 1) [7] := ⟨_, rfl⟩
  rw [← hr1] at m1
  simp only [← hr1] at kp
  clear hr1
  have i2 : ∀ d ∈ [nm 1, nm 2], d.length = 32 := by simp [nm_len]
  have i1 : ∀ d ∈ [nm 2], d.length = 32 := by simp [nm_len]
  have c1 := fun W k B (h : Ky w W k r1 B) (hf : Few 1 r1) u (hu : Dgs W u [nm 1, nm 2]) hB => ky_commit w W k r1 B 1 h hf (by omega) 3 (by omega) u _ hu hB
  have m2 := openK_commitR r1 3 [nm 1, nm 2] (by omega) i2
  unfold mcommitL at c1
  simp only [m1, p2, awakeQ, if_true] at c1 m2
  obtain ⟨r2, hr2⟩ : ∃ r, r = mcommitR r1 3 [nm 1, nm 2] := ⟨_, rfl⟩
  rw [← hr2] at m2
  simp only [← hr2] at c1
  clear hr2
  have c2 := fun W k B (h : Ky w W k r2 B) (hf : Few 2 r2) u (hu : Dgs W u [nm 2]) hB => ky_commit w W k r2 B 2 h hf (by omega) 3 (by omega) u _ hu hB
  have m3 := openK_commitR r2 3 [nm 2] (by omega) i1
  unfold mcommitL at c2
  simp only [m2, p3] at c2 m3
  obtain ⟨r3, hr3⟩ : ∃ r, r = mcommitR r2 3 [nm 2] := ⟨_, rfl⟩
  rw [← hr3] at m3
  simp only [← hr3] at c2
  clear hr3
  have hh := fun W k B (h : Ky w W k r3 B) => mhas_any W k r3 B h.kb (nm 1) (nm_len 1)
  simp only [m3, show (getS [(nm 1, [7])] (nm 1)).isSome = true by decide] at hh
  have n1 := fun W => (show Calls Try.prog 13 #[.int .u8 1] W _ from name_any W 1)
  have n2 := fun W => (show Calls Try.prog 13 #[.int .u8 2] W _ from name_any W 2)
  have hl1 := nm_len 1
  have hl2 := nm_len 2
  obtain ⟨d1, hd1⟩ : ∃ d, d = nm 1 := ⟨_, rfl⟩
  obtain ⟨d2, hd2⟩ : ∃ d, d = nm 2 := ⟨_, rfl⟩
  simp only [← hd1, ← hd2] at kp c1 c2 hh n1 n2 i1 i2 hl1 hl2
  replace hop := hid hop
  replace kp := hid kp
  replace c1 := hid c1
  replace c2 := hid c2
  replace hh := hid hh
  replace n1 := hid n1
  replace n2 := hid n2
  replace i1 := hid i1
  replace i2 := hid i2
  clear hn0 p1 p2 p3 m1 m2 m3 hd1 hd2
  go_enter Try.func9, Try.ntmps9
  go_wp2_with fail
  refine hop.out.mono ?_
  rintro e w1 ⟨k, B1, rfl, k1, b1, o1⟩
  go_wp2_with fail
  refine (n1.out _).mono ?_
  rintro e w2 ⟨rfl, q2⟩
  have k2 := k1.kept0 q2
  go_wp2_with fail
  refine (kp.out _ _ _ (k2.kept0 ((Only.refl [] w2).alloc _)) _ ?_).mono ?_
  · exact cs_built w2 [.int .u8 7] 5 1 1 (0, 0) rfl (by omega)
  rintro e w3 ⟨rfl, B3, k3, b3, o3, f3⟩
  go_wp2_with fail
  refine (n1.out _).mono ?_
  rintro e w4 ⟨rfl, q4⟩
  go_wp2_with fail
  refine (n2.out _).mono ?_
  rintro e w5 ⟨rfl, q5⟩
  have k5 := (k3.kept0 q4).kept0 q5
  have u5 := names_built w5 [d1, d2] i2.out (by simp)
  rw [show [d1, d2].flatMap bytes = bytes d1 ++ bytes d2 by simp] at u5
  have L5 := hid k5.kb.lt
  go_wp2_with (refine wpList_name2 19 20 d1 d2 hl1 hl2 (by rfl) (by rfl) ?_)
  refine (c1.out _ _ _ (k5.kept0 ((Only.refl [] _).alloc _)) f3 _ (u5.dgs (by simp)) (fun i hi => .inr (fun hm => by have := L5.out i hm; simp [Value.ownBlock] at hi; omega))).mono ?_
  rintro e w6 ⟨ov, V, B6, rfl, k6, hov, v1, v2, v3, o6, f6⟩
  obtain ⟨oa, oc, rfl, _⟩ := (hov.bss (by simp)).form
  have HOV := hid hov
  clear hov v3 o6 b3 o3 u5
  go_wp2_with fail
  refine (n2.out _).mono ?_
  rintro e w7 ⟨rfl, q7⟩
  have k7 := k6.kept0 q7
  have u7 := names_built w7 [d2] i1.out (by simp)
  rw [show [d2].flatMap bytes = bytes d2 by simp] at u7
  have L7 := hid k7.kb.lt
  go_wp2_with (refine wpList_name1 27 d2 hl2 (by rfl) ?_)
  refine (c2.out _ _ _ (k7.kept0 ((Only.refl [] _).alloc _)) f6 _ (u7.dgs (by simp)) (fun i hi => .inr (fun hm => by have := L7.out i hm; simp [Value.ownBlock] at hi; omega))).mono ?_
  rintro e w8 ⟨ov8, V8, B8, rfl, k8, hov8, y1, y2, y3, o8, f8⟩
  have hq : Only [] w6 (w7.alloc (Obj.cells (bytes d2).toArray 35)) := q7.trans0 ((Only.refl [] w7).alloc _)
  have HL := hid ((((HOV.out.kept0 hq).away o8 (fun i hi => (v2 i hi).2)).bss (by simp)))
  clear hov8 y2 o8 u7 v2 HOV hq
  go_wp2_with fail
  have o10 : Only [] w8 ((w8.alloc (Obj.cells #[.int .u8 7] 5)).alloc (Obj.cells #[.slice (some ⟨w8.heap.size, 0, none⟩) 1 1, .slice none 0 0] 27)) := ((Only.refl [] w8).alloc _).alloc _
  have hu10 : Bss ((w8.alloc (Obj.cells #[.int .u8 7] 5)).alloc (Obj.cells #[.slice (some ⟨w8.heap.size, 0, none⟩) 1 1, .slice none 0 0] 27)) (.slice (some ⟨w8.heap.size + 1, 0, none⟩) 2 2) [[7], []] := by
    have h1 := cs_built (w8.alloc (Obj.cells #[.int .u8 7] 5)) [.slice (some ⟨w8.heap.size, 0, none⟩) 1 1, .slice none 0 0] 27 1 2 (0, 0) rfl (by omega)
    rw [World.size_alloc] at h1
    have h2 : Bs (w8.alloc (Obj.cells #[.int .u8 7] 5)) (.slice (some ⟨w8.heap.size, 0, none⟩) 1 1) [7] := cs_built w8 [.int .u8 7] 5 1 1 (0, 0) rfl (by omega)
    exact ⟨_, h1, .cons (h2.kept0 ((Only.refl [] _).alloc _)) (.cons (Bs.empty (by unfold maxLen; omega)) .nil)⟩
  have hll := lists_any _ _ _ _ _ (HL.out.kept0 o10) hu10
  rw [decide_eq_true rfl] at hll
  have k10 := k8.kept0 o10
  clear hu10
  refine hll.mono ?_
  rintro e w11 ⟨rfl, q11⟩
  go_wp2_with fail
  refine (n1.out _).mono ?_
  rintro e w12 ⟨rfl, q12⟩
  have k12 := (k10.kept0 q11).kept0 q12
  go_wp2_with fail
  refine (hh.out _ _ _ k12).mono ?_
  rintro e w13 ⟨rfl, q13⟩
  have HF := hid (k12.only.trans0 q13)
  go_wp2
  go_ret
  exact ⟨rfl, HF.out⟩
end Go.Proofs.Ytnlmeaijnfjakaa.Sh
/- The keyper's calls, read; few: walked. -/
namespace Go.Proofs.Ytnlmeaijnfjakaa.Sh
set_option linter.unusedSimpArgs false
set_option linter.unusedVariables false
open Go Go.RowKit Go.ChangeShapes Go.WideShapes Go.Deep

structure KOp where
  kind : Int
  keep : Int
  a : UInt8
  torn : UInt8
  share : List UInt8
  slot : Nat
  l : List UInt8
def KOp.ok (o : KOp) : Prop := (-9223372036854775808 ≤ o.kind ∧ o.kind ≤ 9223372036854775807) ∧ (-9223372036854775808 ≤ o.keep ∧ o.keep ≤ 9223372036854775807) ∧ o.slot < 18446744073709551616
def KEl (w : World) (b o : Nat) (x : KOp) : Prop :=
  (w.cell? ⟨b, o, none⟩ = some (.int .i64 x.kind) ∧ w.cell? ⟨b, o + 1, none⟩ = some (.int .i64 x.keep) ∧ w.cell? ⟨b, o + 2, none⟩ = some (vU8 x.a) ∧ w.cell? ⟨b, o + 3, none⟩ = some (vU8 x.torn) ∧ w.cell? ⟨b, o + 5, none⟩ = some (.int .u64 (x.slot : Int))) ∧ (∃ mv, w.cell? ⟨b, o + 4, none⟩ = some mv ∧ Bs w mv x.share) ∧ ∃ mv, w.cell? ⟨b, o + 6, none⟩ = some mv ∧ Bs w mv x.l
def KOps (w : World) (v : Value) (l : List KOp) : Prop :=
  ∃ a cap, v = .slice a l.length cap ∧ l.length ≤ cap ∧ cap ≤ maxLen ∧ l.length ≤ 9223372036854775807 ∧ (∀ x ∈ l, x.ok) ∧
    (l = [] ∨ ∃ b o, a = some ⟨b, o, none⟩ ∧ ∀ (i : Nat) (h : i < l.length), KEl w b (o + i * 7) l[i])
theorem KOps.at {w : World} {a : Option Addr} {n cap : Nat} {l : List KOp} (h : KOps w (.slice a n cap) l) (k : Nat) (hk : k < l.length) : ∃ b o, a = some ⟨b, o, none⟩ ∧ KEl w b (o + k * 7) l[k] := by
  obtain ⟨a', cap', he, _, _, _, _, h5⟩ := h
  simp only [Value.slice.injEq] at he
  obtain ⟨rfl, _, rfl⟩ := he
  rcases h5 with h5 | ⟨b, o, rfl, h5⟩
  · subst h5; simp at hk
  · exact ⟨b, o, rfl, h5 k hk⟩
theorem KOps.form {w : World} {v : Value} {l : List KOp} (h : KOps w v l) : ∃ a cap, v = .slice a l.length cap ∧ l.length ≤ cap ∧ cap ≤ maxLen ∧ l.length ≤ 9223372036854775807 := by
  obtain ⟨a, cap, rfl, h1, h2, h3, _⟩ := h
  exact ⟨a, cap, rfl, h1, h2, h3⟩
theorem KOps.ok {w : World} {v : Value} {l : List KOp} (h : KOps w v l) : ∀ x ∈ l, x.ok := by
  obtain ⟨a, cap, rfl, h1, h2, h3, h4, _⟩ := h
  exact h4
theorem KEl.kept0 {w w' : World} {b o : Nat} {x : KOp} (h : KEl w b o x) (ho : Only [] w w') : KEl w' b o x := by
  obtain ⟨⟨c0, c1, c2, c3, c5⟩, ⟨x4, c4, h4⟩, x6, c6, h6⟩ := h
  exact ⟨⟨ho.cell c0 (by simp), ho.cell c1 (by simp), ho.cell c2 (by simp), ho.cell c3 (by simp), ho.cell c5 (by simp)⟩, ⟨x4, ho.cell c4 (by simp), h4.kept0 ho⟩, x6, ho.cell c6 (by simp), h6.kept0 ho⟩
theorem KOps.kept0 {w w' : World} {v : Value} {l : List KOp} (h : KOps w v l) (ho : Only [] w w') : KOps w' v l := by
  obtain ⟨a, cap, rfl, h1, h2, h3, h4, h5⟩ := h
  refine ⟨a, cap, rfl, h1, h2, h3, h4, ?_⟩
  rcases h5 with h5 | ⟨b, o, rfl, h5⟩
  · exact .inl h5
  · exact .inr ⟨b, o, rfl, fun i hi => (h5 i hi).kept0 ho⟩

section
variable {H : Type} {enc : TypeId × Value → H} {P : Program} {w : World} {base : Nat} {spare : Nat → Bool} {held : Bool}

theorem read_kops {t e ti tn ts tl tb : TypeId} {f0 f1 f2 f3 f4 f5 f6 : Field} {fuel : Nat} {v : Value} {x : DataW H × List MemPlace} (ht : P.underlying t = some (.slice e)) (he : P.underlying e = some (.struct #[f0, f1, f2, f3, f4, f5, f6])) (hc : P.cellsOf e = 7)
    (o0 : f0.offset = 0) (o1 : f1.offset = 1) (o2 : f2.offset = 2) (o3 : f3.offset = 3) (o4 : f4.offset = 4) (o5 : f5.offset = 5) (o6 : f6.offset = 6) (t0 : f0.type = ti) (t1 : f1.type = ti) (t2 : f2.type = tn) (t3 : f3.type = tn) (t4 : f4.type = ts) (t5 : f5.type = tl) (t6 : f6.type = ts)
    (hk : P.underlying ti = some (.int .i64)) (hn : P.underlying tn = some (.int .u8)) (hL : P.underlying tl = some (.int .u64)) (hs : P.underlying ts = some (.slice tb)) (hb : P.underlying tb = some (.int .u8)) (c0 : P.cellsOf ti = 1) (c2 : P.cellsOf tn = 1) (c5 : P.cellsOf tl = 1) (c3 : P.cellsOf ts = 1) (cb : P.cellsOf tb = 1)
    (h : DataW.trod enc P w base spare held fuel t [v] = some x) : ∃ l, KOps w v l := by
  rcases open_slice ht h with ⟨h0, _⟩ | ⟨a, len, cap, m, n, D, Pl, h0, _, hl, hm, hmm, _, hx⟩
  · obtain rfl : v = .slice none 0 0 := by simpa using h0
    exact ⟨[], none, 0, rfl, by simp, by unfold maxLen; omega, by simp, by simp, .inl rfl⟩
  · obtain rfl : v = .slice (some a) len cap := by simpa using h0
    have hml : len ≤ m := by rw [hmm]; split <;> omega
    have hone : ∀ i, i < len → ∃ st : KOp, st.ok ∧ (w.cell? ((a.add (i * 7)).add 0) = some (.int .i64 st.kind) ∧ w.cell? ((a.add (i * 7)).add 1) = some (.int .i64 st.keep) ∧ w.cell? ((a.add (i * 7)).add 2) = some (vU8 st.a) ∧ w.cell? ((a.add (i * 7)).add 3) = some (vU8 st.torn) ∧ w.cell? ((a.add (i * 7)).add 5) = some (.int .u64 (st.slot : Int))) ∧ (∃ y, w.cell? ((a.add (i * 7)).add 4) = some y ∧ Bs w y st.share) ∧ ∃ y, w.cell? ((a.add (i * 7)).add 6) = some y ∧ Bs w y st.l := by
      intro i hi
      obtain ⟨cs', h1, h2⟩ := hx i (by omega)
      rw [hc] at h1
      obtain ⟨_, hlen, hat⟩ := World.cells?_some h1
      obtain ⟨ys, n', _, _, _, hyl, hf⟩ := DataW.trod_struct he h2
      match cs', hlen with
      | [u0, u1, u2, u3, u4, u5, u6], _ =>
        have g0 := hf 0 f0 rfl
        have g1 := hf 1 f1 rfl
        have g2 := hf 2 f2 rfl
        have g3 := hf 3 f3 rfl
        have g4 := hf 4 f4 rfl
        have g5 := hf 5 f5 rfl
        have g6 := hf 6 f6 rfl
        rw [o0, t0, c0] at g0
        rw [o1, t1, c0] at g1
        rw [o2, t2, c2] at g2
        rw [o3, t3, c2] at g3
        rw [o4, t4, c3] at g4
        rw [o5, t5, c5] at g5
        rw [o6, t6, c3] at g6
        have hy : ys.length = 7 := hyl
        obtain ⟨y0, y1, y2, y3, y4, y5, y6, rfl⟩ : ∃ y0 y1 y2 y3 y4 y5 y6, ys = [y0, y1, y2, y3, y4, y5, y6] := by
          match ys, hy with
          | [p, q, r, s, t, u, v], _ => exact ⟨p, q, r, s, t, u, v, rfl⟩
        obtain ⟨k0, hk0, _, hw0⟩ := DataW.trod_int hk g0
        obtain ⟨k1, hk1, _, hw1⟩ := DataW.trod_int hk g1
        obtain ⟨k2, hk2, _, hw2⟩ := DataW.trod_int hn g2
        obtain ⟨k3, hk3, _, hw3⟩ := DataW.trod_int hn g3
        obtain ⟨k5, hk5, _, hw5⟩ := DataW.trod_int hL g5
        obtain ⟨b4, hb4⟩ := read_bs hs hb cb g4
        obtain ⟨b6, hb6⟩ := read_bs hs hb cb g6
        simp only [List.drop_zero, List.take_succ_cons, List.take_zero, List.cons.injEq, and_true] at hk0
        simp only [List.drop_succ_cons, List.drop_zero, List.take_succ_cons, List.take_zero, List.cons.injEq, and_true] at hk1 hk2 hk3 hk5
        subst hk0; subst hk1; subst hk2; subst hk3; subst hk5
        have v0 := wfi64 hw0
        have v1 := wfi64 hw1
        have v5 := wfu64 hw5
        obtain ⟨n2, rfl⟩ := u8_of (wfu8 hw2)
        obtain ⟨n3, rfl⟩ := u8_of (wfu8 hw3)
        obtain ⟨n5, rfl⟩ : ∃ n : Nat, k5 = (n : Int) := ⟨k5.toNat, by omega⟩
        exact ⟨⟨k0, k1, n2, n3, b4, n5, b6⟩, ⟨v0, v1, by show n5 < _; omega⟩, ⟨hat 0 (by omega), hat 1 (by omega), hat 2 (by omega), hat 3 (by omega), hat 5 (by omega)⟩, ⟨u4, hat 4 (by omega), hb4⟩, u6, hat 6 (by omega), hb6⟩
    obtain ⟨l, hl2⟩ := all2_of (R := fun (i : Nat) (st : KOp) => st.ok ∧ (w.cell? ((a.add (i * 7)).add 0) = some (.int .i64 st.kind) ∧ w.cell? ((a.add (i * 7)).add 1) = some (.int .i64 st.keep) ∧ w.cell? ((a.add (i * 7)).add 2) = some (vU8 st.a) ∧ w.cell? ((a.add (i * 7)).add 3) = some (vU8 st.torn) ∧ w.cell? ((a.add (i * 7)).add 5) = some (.int .u64 (st.slot : Int))) ∧ (∃ y, w.cell? ((a.add (i * 7)).add 4) = some y ∧ Bs w y st.share) ∧ ∃ y, w.cell? ((a.add (i * 7)).add 6) = some y ∧ Bs w y st.l) (List.range len) (fun i hi => hone i (by simpa using hi))
    have hlen : l.length = len := by
      have := hl2.length
      simpa using this.symm
    have hget : ∀ (i : Nat) (hi : i < l.length), l[i].ok ∧ (w.cell? ((a.add (i * 7)).add 0) = some (.int .i64 l[i].kind) ∧ w.cell? ((a.add (i * 7)).add 1) = some (.int .i64 l[i].keep) ∧ w.cell? ((a.add (i * 7)).add 2) = some (vU8 l[i].a) ∧ w.cell? ((a.add (i * 7)).add 3) = some (vU8 l[i].torn) ∧ w.cell? ((a.add (i * 7)).add 5) = some (.int .u64 (l[i].slot : Int))) ∧ (∃ y, w.cell? ((a.add (i * 7)).add 4) = some y ∧ Bs w y l[i].share) ∧ ∃ y, w.cell? ((a.add (i * 7)).add 6) = some y ∧ Bs w y l[i].l := by
      intro i hi
      obtain ⟨j, hj, hR⟩ := hl2.get hi
      have : j = i := by
        rw [List.getElem?_range (by omega)] at hj
        simpa using hj.symm
      subst this
      exact hR
    refine ⟨l, some a, cap, by rw [hlen], by omega, hm, by unfold maxLen at hm; omega, ?_, ?_⟩
    · intro st hst
      obtain ⟨i, hi, rfl⟩ := List.getElem_of_mem hst
      exact (hget i hi).1
    · by_cases h0 : len = 0
      · left; exact List.eq_nil_of_length_eq_zero (by omega)
      · right
        obtain ⟨b, o, sp⟩ := a
        have hsp : sp = none := by
          have := spot_none (hget 0 (by omega)).2.1.1
          simpa [Addr.add] using this
        subst hsp
        refine ⟨b, o, rfl, fun i hi => ?_⟩
        obtain ⟨_, ⟨q0, q1, q2, q3, q5⟩, ⟨y4, q4, r4⟩, y6, q6, r6⟩ := hget i hi
        rw [Addr.add_mid, Addr.add_mid] at q0 q1 q2 q3 q4 q5 q6
        exact ⟨⟨q0, q1, q2, q3, q5⟩, ⟨y4, q4, r4⟩, y6, q6, r6⟩
end

def fewK (l : List KOp) : Bool := l.all (fun x => decide (x.share.length ≤ 60) && decide (x.l.length ≤ 60)) && decide (l.length ≤ 60)

set_option maxHeartbeats 1600000 in
theorem few20_any (v : Value) (l : List KOp) (w : World) (hl : KOps w v l) :
    Calls Try.prog 10 #[v] w fun e w' => e = .returned (.bool (fewK l)) ∧ w' = w := by
  obtain ⟨a, cap, rfl, h1, h2, h3⟩ := hl.form
  go_enter Try.func10, Try.ntmps10
  go_wp2
  go_loop [6] (fun i => ∃ k : Nat, k ≤ l.length ∧ i = .int .i64 k ∧ Hid (∀ j (h : j < l.length), j < k → l[j].share.length ≤ 60 ∧ l[j].l.length ≤ 60)) (fun i => l.length - (intOf i).toNat)
  case atStart => exact ⟨0, Nat.zero_le _, rfl, hid (fun j _ h => absurd h (Nat.not_lt_zero _))⟩
  case round =>
    obtain ⟨k, hk, rfl, hall⟩ := hrel
    by_cases hlt : k < l.length
    · obtain ⟨b, o, rfl, ⟨c0, c1, c2, c3, c5⟩, ⟨x4, c4, hB⟩, x6, c6, hG⟩ := hl.at k hlt
      obtain ⟨xa, xc, rfl⟩ := bs_form hB
      obtain ⟨ya, yc, rfl⟩ := bs_form hG
      have hlong := hid (show 60 < l[k].share.length ∨ 60 < l[k].l.length → fewK l = false by
        intro h
        have : l.all (fun x => decide (x.share.length ≤ 60) && decide (x.l.length ≤ 60)) = false := by
          rw [List.all_eq_false]
          refine ⟨l[k], List.getElem_mem hlt, ?_⟩
          simp only [Bool.and_eq_true, decide_eq_true_eq]
          omega
        unfold fewK
        rw [this]
        rfl)
      have hall2 : Hid (l[k].share.length ≤ 60 → l[k].l.length ≤ 60 → ∀ j (h : j < l.length), j < k + 1 → l[j].share.length ≤ 60 ∧ l[j].l.length ≤ 60) := by
        intro hs hs2 j h hj
        by_cases e : j = k
        · subst e; exact ⟨hs, hs2⟩
        · exact hall.out j h (by omega)
      obtain ⟨B, hB'⟩ : ∃ B, B = l[k].share.length := ⟨_, rfl⟩
      obtain ⟨G, hG'⟩ : ∃ G, G = l[k].l.length := ⟨_, rfl⟩
      rw [← hB', ← hG'] at hlong hall2
      rw [← hB'] at c4
      rw [← hG'] at c6
      clear hall c0 c1 c2 c3 c5 hB' hG' hB hG
      by_cases h60 : 60 < B
      · have hf := hid (hlong.out (.inl h60))
        go_wp2
        go_ret
        exact ⟨by rw [hf.out]; rfl, rfl⟩
      · by_cases g60 : 60 < G
        · have hf := hid (hlong.out (.inr g60))
          clear hlong hall2
          go_wp2
          go_ret
          exact ⟨by rw [hf.out]; rfl, rfl⟩
        · have hall3 := hid (hall2.out (by omega) (by omega))
          clear hlong hall2
          go_wp2
          go_round
          case rel => exact ⟨k + 1, by omega, by go_num, hall3⟩
          case measure => simp [intOf]; omega
    · obtain rfl : k = l.length := by omega
      have hfin : fewK l = decide (l.length ≤ 60) := by
        have : l.all (fun x => decide (x.share.length ≤ 60) && decide (x.l.length ≤ 60)) = true := by
          rw [List.all_eq_true]
          intro y hy
          obtain ⟨i, hi, rfl⟩ := List.getElem_of_mem hy
          simpa using hall.out i hi hi
        unfold fewK
        rw [this]
        rfl
      clear hall
      by_cases h40 : l.length ≤ 60
      · rw [decide_eq_true h40] at hfin
        replace hfin := hid hfin
        have hd : decide ((l.length : Int) ≤ 60) = true := by simp; omega
        clear h40
        go_wp2
        go_ret
        exact ⟨by rw [hfin.out]; rfl, rfl⟩
      · rw [decide_eq_false h40] at hfin
        replace hfin := hid hfin
        have hd : decide ((l.length : Int) ≤ 60) = false := by simp; omega
        clear h40
        go_wp2
        go_ret
        exact ⟨by rw [hfin.out]; rfl, rfl⟩
theorem fewK_ok {l : List KOp} (h : fewK l = true) : (∀ x ∈ l, x.share.length ≤ 60 ∧ x.l.length ≤ 60) ∧ l.length ≤ 60 := by
  unfold fewK at h
  simp only [Bool.and_eq_true, List.all_eq_true, decide_eq_true_eq] at h
  exact h
end Go.Proofs.Ytnlmeaijnfjakaa.Sh
