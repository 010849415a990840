/- The walks of tight's all where it refuses, of Same, Within, Empty, and of the document's Within. -/
import Derived.Test.YtmpcoclgcldclaaVA
import Derived.Test.YtmpcoclgcldclaaUM
namespace Go.Proofs.Ytmpcoclgcldclaa
open Go.RowKit
attribute [local go_sem ↓] Go.wp_at_zero Go.wp_at_succ

theorem Try.enters100 : ∀ args w, (callFunc 100 args).run Try.prog w = .ok (.enter 100 args) w := enters_of Try.func100 (by kernel_rfl) rfl
theorem Try.enters101 : ∀ args w, (callFunc 101 args).run Try.prog w = .ok (.enter 101 args) w := enters_of Try.func101 (by kernel_rfl) rfl
/-- what Same and Within refuse -/
def RefR (w : World) (e : Ending) (w' : World) : Prop := e = .returned (.tuple #[.bool false, .int .i64 151]) ∧ Below w.heap.size w w'
set_option maxHeartbeats 4000000 in
set_option maxRecDepth 100000 in
theorem all_no (a b : D) (Aan Aaa Abn Aba : Option Addr) (can caa cbn cba : Nat) (g : Value) (w : World)
    (hda : DIn w a Aan Aaa) (hdb : DIn w b Abn Aba) (hno : prodOk a b = false) :
    Calls Try.prog 99 #[dfaV a.K a.S Aan a.N.length can Aaa a.A.length caa, dfaV b.K b.S Abn b.N.length cbn Aba b.A.length cba, g] w (RefR w) := by
  have Ha := Lib.hid ((HasD.new hda can caa).alloc (.cells #[.int .i64 b.K, .int .i64 b.S, .slice Abn b.N.length cbn, .slice Aba b.A.length cba] 25))
  have Hb : Hid (HasD ((w.alloc (.cells #[.int .i64 a.K, .int .i64 a.S, .slice Aan a.N.length can, .slice Aaa a.A.length caa] 25)).alloc (.cells #[.int .i64 b.K, .int .i64 b.S, .slice Abn b.N.length cbn, .slice Aba b.A.length cba] 25)) (w.heap.size + 1) b Abn cbn Aba cba) := HasD.newAt (hdb.alloc _) cbn cba (by simp)
  have HW := Lib.hid (bel_alloc (bel_new w (.cells #[.int .i64 a.K, .int .i64 a.S, .slice Aan a.N.length can, .slice Aaa a.A.length caa] 25)) (.cells #[.int .i64 b.K, .int .i64 b.S, .slice Abn b.N.length cbn, .slice Aba b.A.length cba] 25))
  unfold prodOk at hno
  clear hda hdb
  rcases ra : a.right with _ | _
  · have RA := Lib.hid ra; clear ra hno
    go_enter Try.func99, Try.ntmps99
    go_wp2_with fail
    refine (right_c Ha.out.din can caa).mono ?_
    rintro e w1 ⟨rfl, hb⟩
    replace HW := Lib.hid (bel_step HW.out hb)
    clear hb Ha Hb
    rw [RA.out]
    go_wp2_with fail
    go_ret2
    exact ⟨rfl, HW.out⟩
  · rcases rb : b.right with _ | _
    · have RA := Lib.hid ra; have RB := Lib.hid rb; clear ra rb hno
      go_enter Try.func99, Try.ntmps99
      go_wp2_with fail
      refine (right_c Ha.out.din can caa).mono ?_
      rintro e w1 ⟨rfl, hb⟩
      replace HW := Lib.hid (bel_step HW.out hb)
      replace Hb := Lib.hid (Hb.out.up hb)
      obtain ⟨b0, b1, b2, b3⟩ := Hb.out.cells
      have ltb := Hb.out.lt
      clear hb Ha
      rw [RA.out]
      go_wp2_with fail
      refine (right_c Hb.out.din cbn cba).mono ?_
      rintro e w2 ⟨rfl, hb⟩
      replace HW := Lib.hid (bel_step HW.out hb)
      clear hb Hb b0 b1 b2 b3 ltb
      rw [RB.out]
      go_wp2_with fail
      go_ret2
      exact ⟨rfl, HW.out⟩
    · have hKf : (a.K != b.K) = true := by
        rw [ra, rb] at hno
        have h1 : (a.K == b.K) = false := by simpa using hno
        simp only [bne, h1, Bool.not_false]
      have RA := Lib.hid ra; have RB := Lib.hid rb; clear ra rb hno
      go_enter Try.func99, Try.ntmps99
      go_wp2_with fail
      refine (right_c Ha.out.din can caa).mono ?_
      rintro e w1 ⟨rfl, hb⟩
      replace HW := Lib.hid (bel_step HW.out hb)
      replace Ha := Lib.hid (Ha.out.up hb)
      replace Hb := Lib.hid (Hb.out.up hb)
      obtain ⟨b0, b1, b2, b3⟩ := Hb.out.cells
      have ltb := Hb.out.lt
      clear hb
      rw [RA.out]
      go_wp2_with fail
      refine (right_c Hb.out.din cbn cba).mono ?_
      rintro e w2 ⟨rfl, hb⟩
      replace HW := Lib.hid (bel_step HW.out hb)
      replace Ha := Lib.hid (Ha.out.up hb)
      replace Hb := Lib.hid (Hb.out.up hb)
      clear b0 b1 b2 b3 ltb
      obtain ⟨a0, a1, a2, a3⟩ := Ha.out.cells
      obtain ⟨b0, b1, b2, b3⟩ := Hb.out.cells
      have lta := Ha.out.lt
      have ltb := Hb.out.lt
      clear hb
      rw [RB.out]
      go_wp2_with fail
      go_ret2
      exact ⟨rfl, HW.out⟩
set_option maxHeartbeats 2000000 in
set_option maxRecDepth 100000 in
theorem same_yes {a b : D} {Aan Aaa Abn Aba : Option Addr} {w : World} (hda : DIn w a Aan Aaa) (hdb : DIn w b Abn Aba) (can caa cbn cba : Nat) (ha : a.Ok) (hb : b.Ok) (hK : a.K = b.K) (hsz : a.A.length * b.A.length ≤ 1000000) :
    Calls Try.prog 62 #[dfaV a.K a.S Aan a.N.length can Aaa a.A.length caa, dfaV b.K b.S Abn b.N.length cbn Aba b.A.length cba] w (AllR (fun x y => x == y) a b w) := by
  have HC := Lib.hid (fun (W : World) (h : Below w.heap.size w W) => all_any a b Aan Aaa Abn Aba can caa cbn cba 100 (fun x y => x == y) W same_fn Try.enters100 (hda.up h) (hdb.up h) ha hb hK hsz)
  have HW := Lib.hid (bel_alloc (bel_new w (.cells #[.int .i64 a.K, .int .i64 a.S, .slice Aan a.N.length can, .slice Aaa a.A.length caa] 25)) (.cells #[.int .i64 b.K, .int .i64 b.S, .slice Abn b.N.length cbn, .slice Aba b.A.length cba] 25))
  clear hda hdb ha hb hK hsz
  go_enter Try.func62, Try.ntmps62
  go_wp2_with fail
  refine (HC.out _ HW.out).mono ?_
  rintro e w1 ⟨r, rfl, hr, hb1⟩
  have HR := Lib.hid hr; have HB := Lib.hid (bel_step HW.out hb1)
  clear hr hb1
  go_wp2_with fail
  go_ret2
  exact ⟨r, rfl, HR.out, HB.out⟩
set_option maxHeartbeats 2000000 in
set_option maxRecDepth 100000 in
theorem same_no {a b : D} {Aan Aaa Abn Aba : Option Addr} {w : World} (hda : DIn w a Aan Aaa) (hdb : DIn w b Abn Aba) (can caa cbn cba : Nat) (hno : prodOk a b = false) :
    Calls Try.prog 62 #[dfaV a.K a.S Aan a.N.length can Aaa a.A.length caa, dfaV b.K b.S Abn b.N.length cbn Aba b.A.length cba] w (RefR w) := by
  have HC := Lib.hid (fun (W : World) (h : Below w.heap.size w W) => all_no a b Aan Aaa Abn Aba can caa cbn cba (.func (.func 100) #[] #[]) W (hda.up h) (hdb.up h) hno)
  have HW := Lib.hid (bel_alloc (bel_new w (.cells #[.int .i64 a.K, .int .i64 a.S, .slice Aan a.N.length can, .slice Aaa a.A.length caa] 25)) (.cells #[.int .i64 b.K, .int .i64 b.S, .slice Abn b.N.length cbn, .slice Aba b.A.length cba] 25))
  clear hda hdb hno
  go_enter Try.func62, Try.ntmps62
  go_wp2_with fail
  refine (HC.out _ HW.out).mono ?_
  rintro e w1 ⟨rfl, hb1⟩
  have HB := Lib.hid (bel_step HW.out hb1)
  clear hb1
  go_wp2_with fail
  go_ret2
  exact ⟨rfl, HB.out⟩
set_option maxHeartbeats 2000000 in
set_option maxRecDepth 100000 in
theorem within_yes {a b : D} {Aan Aaa Abn Aba : Option Addr} {w : World} (hda : DIn w a Aan Aaa) (hdb : DIn w b Abn Aba) (can caa cbn cba : Nat) (ha : a.Ok) (hb : b.Ok) (hK : a.K = b.K) (hsz : a.A.length * b.A.length ≤ 1000000) :
    Calls Try.prog 63 #[dfaV a.K a.S Aan a.N.length can Aaa a.A.length caa, dfaV b.K b.S Abn b.N.length cbn Aba b.A.length cba] w (AllR (fun x y => y || !x) a b w) := by
  have HC := Lib.hid (fun (W : World) (h : Below w.heap.size w W) => all_any a b Aan Aaa Abn Aba can caa cbn cba 101 (fun x y => y || !x) W within_fn Try.enters101 (hda.up h) (hdb.up h) ha hb hK hsz)
  have HW := Lib.hid (bel_alloc (bel_new w (.cells #[.int .i64 a.K, .int .i64 a.S, .slice Aan a.N.length can, .slice Aaa a.A.length caa] 25)) (.cells #[.int .i64 b.K, .int .i64 b.S, .slice Abn b.N.length cbn, .slice Aba b.A.length cba] 25))
  clear hda hdb ha hb hK hsz
  go_enter Try.func63, Try.ntmps63
  go_wp2_with fail
  refine (HC.out _ HW.out).mono ?_
  rintro e w1 ⟨r, rfl, hr, hb1⟩
  have HR := Lib.hid hr; have HB := Lib.hid (bel_step HW.out hb1)
  clear hr hb1
  go_wp2_with fail
  go_ret2
  exact ⟨r, rfl, HR.out, HB.out⟩
set_option maxHeartbeats 2000000 in
set_option maxRecDepth 100000 in
theorem within_no {a b : D} {Aan Aaa Abn Aba : Option Addr} {w : World} (hda : DIn w a Aan Aaa) (hdb : DIn w b Abn Aba) (can caa cbn cba : Nat) (hno : prodOk a b = false) :
    Calls Try.prog 63 #[dfaV a.K a.S Aan a.N.length can Aaa a.A.length caa, dfaV b.K b.S Abn b.N.length cbn Aba b.A.length cba] w (RefR w) := by
  have HC := Lib.hid (fun (W : World) (h : Below w.heap.size w W) => all_no a b Aan Aaa Abn Aba can caa cbn cba (.func (.func 101) #[] #[]) W (hda.up h) (hdb.up h) hno)
  have HW := Lib.hid (bel_alloc (bel_new w (.cells #[.int .i64 a.K, .int .i64 a.S, .slice Aan a.N.length can, .slice Aaa a.A.length caa] 25)) (.cells #[.int .i64 b.K, .int .i64 b.S, .slice Abn b.N.length cbn, .slice Aba b.A.length cba] 25))
  clear hda hdb hno
  go_enter Try.func63, Try.ntmps63
  go_wp2_with fail
  refine (HC.out _ HW.out).mono ?_
  rintro e w1 ⟨rfl, hb1⟩
  have HB := Lib.hid (bel_step HW.out hb1)
  clear hb1
  go_wp2_with fail
  go_ret2
  exact ⟨rfl, HB.out⟩
/-- does it tell nothing? -/
def EmpR (d : D) (w : World) (e : Ending) (w' : World) : Prop := ∃ r : Bool, e = .returned (.tuple #[.bool r, .int .i64 0]) ∧ (r = true ↔ EmptyP d) ∧ Below w.heap.size w w'
set_option maxHeartbeats 2000000 in
set_option maxRecDepth 100000 in
theorem empty_no {d : D} {An Aa : Option Addr} {w : World} (hd : DIn w d An Aa) (cn ca : Nat) (hr : d.right = false) :
    Calls Try.prog 64 #[dfaV d.K d.S An d.N.length cn Aa d.A.length ca] w (RefR w) := by
  have HR := Lib.hid hr; clear hr
  have Hd := Lib.hid (HasD.new hd cn ca)
  have HW := Lib.hid (bel_new w (.cells #[.int .i64 d.K, .int .i64 d.S, .slice An d.N.length cn, .slice Aa d.A.length ca] 25))
  clear hd
  go_enter Try.func64, Try.ntmps64
  go_wp2_with fail
  refine (right_c Hd.out.din cn ca).mono ?_
  rintro e w1 ⟨rfl, hb⟩
  replace HW := Lib.hid (bel_step HW.out hb)
  clear hb
  rw [HR.out]
  go_wp2_with fail
  go_ret2
  exact ⟨rfl, HW.out⟩
theorem Try.field25_3 : ∀ (a b c e : Value) (w : World), (Instr.field 25 (.agg #[a, b, c, e]) 3).run Try.prog w = .ok e w := fun a b c e w => by kernel_rfl
theorem own_c {d : D} {An Aa : Option Addr} {w : World} (hA : d.A.length ≤ 65536) (cn ca : Nat) :
    Calls Try.prog 94 #[dfaV d.K d.S An d.N.length cn Aa d.A.length ca] w fun e w' => ∃ A c cls, e = .returned (.slice A cls.length c) ∧ OwnC d cls ∧ cls.length = d.A.length ∧ WIn w' cls A ∧ Below w.heap.size w w' := by
  refine (own_any d An Aa cn ca w hA).mono ?_
  rintro e w' ⟨A, c, cls, rfl, hl, hc, ho, hb⟩
  have ho' := ho
  rw [← hl] at ho'
  exact ⟨A, c, cls, by rw [hl], hc, hl, ⟨by omega, Rd.of_own ho' (Nat.le_refl _)⟩, hb⟩
theorem ordered_c {d : D} {cls : List Int} {An Aa Ac : Option Addr} {w : World} (hd : DIn w d An Aa) (hc : WIn w cls Ac) (hok : d.Ok) (hcl : cls.length = d.A.length) (ho : OwnC d cls) (cn ca cc : Nat) :
    Calls Try.prog 93 #[dfaV d.K d.S An d.N.length cn Aa d.A.length ca, .slice Ac cls.length cc] w fun e w' => ∃ (x : D) (Xn : Option Addr) (xm : Nat) (Xa : Option Addr) (xb : Nat), e = .returned (.agg #[.int .i64 x.K, .int .i64 x.S, .slice Xn x.N.length xm, .slice Xa x.A.length xb]) ∧ DIn w' x Xn Xa ∧ (EmptyP d ↔ true ∉ x.A) ∧ Below w.heap.size w w' := by
  refine (ordered_any d cls An Aa Ac cn ca cc w hd hc hok hcl).mono ?_
  rintro e w' ⟨L, N, v, hin, rfl, hv, hb⟩
  obtain ⟨Xn, xm, Xa, xb, rfl, dx⟩ := hv.din (D.Ok.sizes (hin.ok hok ho.cong.refl))
  exact ⟨ordD d L N, Xn, xm, Xa, xb, rfl, dx, empty_iff hok ho hin, hb⟩
set_option maxHeartbeats 4000000 in
set_option maxRecDepth 100000 in
theorem empty_yes {d : D} {An Aa : Option Addr} {w : World} (hd : DIn w d An Aa) (cn ca : Nat) (hok : d.Ok) :
    Calls Try.prog 64 #[dfaV d.K d.S An d.N.length cn Aa d.A.length ca] w (EmpR d w) := by
  have HR := Lib.hid (D.right_true.2 hok)
  have HOK := Lib.hid hok
  have hA2 : d.A.length ≤ 65536 := hok.2.2.2.1
  have hfd := Try.field25_3
  have Hd := Lib.hid (HasD.new hd cn ca)
  have HW := Lib.hid (bel_new w (.cells #[.int .i64 d.K, .int .i64 d.S, .slice An d.N.length cn, .slice Aa d.A.length ca] 25))
  clear hd hok
  go_enter Try.func64, Try.ntmps64
  go_wp2_with fail
  refine (right_c Hd.out.din cn ca).mono ?_
  rintro e w1 ⟨rfl, hb⟩
  replace Hd := Lib.hid (Hd.out.up hb)
  replace HW := Lib.hid (bel_step HW.out hb)
  obtain ⟨d0, d1, d2, d3⟩ := Hd.out.cells
  have ltd := Hd.out.lt
  clear hb
  rw [HR.out]
  go_wp2_with fail
  replace Hd := Lib.hid Hd.out.drew
  replace HW := Lib.hid HW.out.drew
  go_region_held3 (fun w' => w'.cell? ⟨w.heap.size, 0, none⟩ = some (.int .i64 d.K) ∧ w'.cell? ⟨w.heap.size, 1, none⟩ = some (.int .i64 d.S) ∧ w'.cell? ⟨w.heap.size, 2, none⟩ = some (.slice An d.N.length cn) ∧ w'.cell? ⟨w.heap.size, 3, none⟩ = some (.slice Aa d.A.length ca))
    (go_keep)
    (first
      | (go_at_call 94
         refine (own_c hA2 cn ca).mono ?_
         rintro e wr0 ⟨Ac, cc, cls, rfl, hown, hcl, hwi, hb0⟩
         have Hd_r0 := Lib.hid (Hd.out.up hb0)
         have HW_r0 := Lib.hid (bel_step HW.out hb0)
         have HWI := Lib.hid hwi; have HOW := Lib.hid hown; have HCL := Lib.hid hcl
         obtain ⟨d0_r0, d1_r0, d2_r0, d3_r0⟩ := Hd_r0.out.cells
         have ltd_r0 := Hd_r0.out.lt
         clear hb0 hwi hown hcl)
      | (go_at_call 93
         refine (ordered_c Hd_r0.out.din HWI.out HOK.out HCL.out HOW.out cn ca cc).mono ?_
         rintro e wr1 ⟨x, Xn, xm, Xa, xb, rfl, hdx, hex, hb1⟩
         have Hd_r1 := Lib.hid (Hd_r0.out.up hb1)
         have HW_r1 := Lib.hid (bel_step HW_r0.out hb1)
         have HDX := Lib.hid hdx; have HEX := Lib.hid hex
         obtain ⟨d0_r1, d1_r1, d2_r1, d3_r1⟩ := Hd_r1.out.cells
         have ltd_r1 := Hd_r1.out.lt
         clear hb1 hdx hex)
      | (go_at_call 102
         refine (containsB_any Xa xb x.A _ HDX.out.la HDX.out.ra).mono ?_
         rintro e wr2 ⟨rfl, rfl⟩))
  go_wp2_with fail
  go_ret2
  refine ⟨_, rfl, ?_, HW_r1.out⟩
  rw [HEX.out]
  simp
/-- does the second one tell all that the first one does? -/
def InR (a b : D) (w : World) (e : Ending) (w' : World) : Prop := ∃ r : Bool, e = .returned (.bool r) ∧ (r = true ↔ InP a b) ∧ Below w.heap.size w w'
theorem inP_of {a b : D} {L : List (Int × Int)} (h : PInv a b L L.length 0) (hall : ∀ p ∈ L.take L.length, (b.acc p.2 || !a.acc p.1) = true) : InP a b := by
  rw [List.take_length] at hall
  exact fun p hp => hall p (h.all hp)
set_option maxHeartbeats 2000000 in
set_option maxRecDepth 100000 in
theorem refWithin_any {a b : D} {Aan Aaa Abn Aba : Option Addr} {w : World} (hda : DIn w a Aan Aaa) (hdb : DIn w b Abn Aba) (can caa cbn cba : Nat) (ha : a.Ok) (hb : b.Ok) (hK : a.K = b.K) (hsz : a.A.length * b.A.length ≤ 1000000) :
    Calls Try.prog 65 #[dfaV a.K a.S Aan a.N.length can Aaa a.A.length caa, dfaV b.K b.S Abn b.N.length cbn Aba b.A.length cba] w (InR a b w) := by
  have hc := fun (W : World) (hw : Below w.heap.size w W) => pairs_any a b Aan Aaa Abn Aba can caa cbn cba W ha hb hK hsz (hda.rn.up (Nat.le_refl _) hw) (hdb.rn.up (Nat.le_refl _) hw)
  have HC := Lib.hid hc; have HAA := Lib.hid hda.ra; have HBA := Lib.hid hdb.ra; have HA := Lib.hid ha; have HB := Lib.hid hb; have HK := Lib.hid hK; have HSZ := Lib.hid hsz
  clear hc hda hdb ha hb hK hsz
  go_enter Try.func65, Try.ntmps65
  go_wp2_with fail
  refine (HC.out _ ?_).mono ?_
  · exact ((Below.refl _ _).alloc (Nat.le_refl _) _).alloc (by simp) _
  rintro e w1 ⟨A, c, L, rfl, ho, hp, hb1⟩
  have hL : L.length ≤ 1000000 := Nat.le_trans (hp.len HA.out HB.out HK.out) HSZ.out
  have hk0 : BlkD w1 w.heap.size a Aan can Aaa caa := blk_below ((Blk.new w 25 #[.int .i64 a.K, .int .i64 a.S, .slice Aan a.N.length can, .slice Aaa a.A.length caa]).alloc (.cells #[.int .i64 b.K, .int .i64 b.S, .slice Abn b.N.length cbn, .slice Aba b.A.length cba] 25)) hb1
  have hk1 : BlkD w1 (w.heap.size + 1) b Abn cbn Aba cba := by
    have h := blk_below (Blk.new (w.alloc (.cells #[.int .i64 a.K, .int .i64 a.S, .slice Aan a.N.length can, .slice Aaa a.A.length caa] 25)) 25 #[.int .i64 b.K, .int .i64 b.S, .slice Abn b.N.length cbn, .slice Aba b.A.length cba]) hb1
    simpa only [size_alloc_one] using h
  have hw1 : Below w.heap.size w w1 := (((Below.refl _ _).alloc (Nat.le_refl _) _).alloc (by simp) _).trans (hb1.mono (by simp; omega))
  have hr := Rd2.of_own ho (Nat.le_refl _)
  have HR := Lib.hid hr; have HP := Lib.hid hp; have HK0 := Lib.hid hk0; have HK1 := Lib.hid hk1; have HW := Lib.hid hw1
  clear ho hb1 hr hp hk0 hk1 hw1
  go_wp2_with fail
  go_loopw [6, 11] (fun _ i wr => ∃ k : Nat, i = .int .i64 k ∧ k ≤ L.length ∧ Hid (∀ p ∈ L.take k, (b.acc p.2 || !a.acc p.1) = true) ∧ Hid (BlkD wr w.heap.size a Aan can Aaa caa) ∧ Hid (BlkD wr (w.heap.size + 1) b Abn cbn Aba cba) ∧ Hid (Below w.heap.size w wr) ∧ Hid (Below w1.heap.size w1 wr)) (fun _ i _ => L.length - (intOf i).toNat)
  case atStart => exact ⟨0, rfl, Nat.zero_le _, by simp [Hid], HK0, HK1, HW, Below.refl _ _⟩
  case round =>
    clear HK0 HK1 HW
    obtain ⟨k, rfl, hk, HALL, HK0, HK1, HW, HW1⟩ := hrel
    by_cases hlt : k < L.length
    · obtain ⟨g, o, p, rfl, hg, hc1, hc2, hpk⟩ := (show Rd2 wr w1.heap.size A L from HR.out.below HW1.out).at_ hlt
      obtain ⟨p1, p2⟩ := p
      have HPK := Lib.hid hpk; clear hpk
      have hr := (HP.out.reach _ (List.mem_of_getElem? HPK.out)).lt HA.out HB.out HK.out
      obtain ⟨⟨hr1, hr2⟩, hr3, hr4⟩ := hr
      simp only [] at hr1 hr2 hr3 hr4
      obtain ⟨⟨f0, f1, f2, f3⟩, _⟩ := blk4 HK0.out
      obtain ⟨⟨e0, e1, e2, e3⟩, _⟩ := blk4 HK1.out
      obtain ⟨ga, oa, va, hAa, hga, hca, hva⟩ := (HAA.out.below HW.out).bool_ix hr1 hr2
      obtain ⟨gb, ob, vb, hAb, hgb, hcb, hvb⟩ := (HBA.out.below HW.out).bool_ix hr3 hr4
      have HVA : Hid (a.acc p1 = va) := hva
      have HVB : Hid (b.acc p2 = vb) := hvb
      subst hAa hAb
      clear hva hvb
      have hs0 : w.heap.size < wr.heap.size := HK0.out.lt
      have hs1 : w.heap.size + 1 < wr.heap.size := HK1.out.lt
      have hs3 : ga < wr.heap.size := by omega
      have hs4 : gb < wr.heap.size := by omega
      cases hab : vb || !va
      · have HE : Hid ((b.acc p2 || !a.acc p1) = false) := by show _ = _; rw [HVA.out, HVB.out]; exact hab
        obtain ⟨rfl, rfl⟩ : va = true ∧ vb = false := by revert hab; cases va <;> cases vb <;> simp
        clear hab
        go_wp2_with fail
        go_ret
        refine ⟨false, rfl, ⟨(fun h => by cases h), fun h => ?_⟩, HW.out.alloc HW.out.size _⟩
        have h3 : (b.acc p2 || !a.acc p1) = true := h _ (HP.out.reach _ (List.mem_of_getElem? HPK.out))
        rw [HE.out] at h3
        exact h3
      · have HE : Hid ((b.acc p2 || !a.acc p1) = true) := by show _ = _; rw [HVA.out, HVB.out]; exact hab
        rcases va with _ | _
        rotate_left 1
        obtain rfl : vb = true := by revert hab; cases vb <;> simp
        all_goals
          clear hab
          go_wp2_with fail
          go_roundw
          case rel =>
            refine ⟨k + 1, by go_num, by omega, ?_, HK0.out.alloc _, HK1.out.alloc _, HW.out.alloc HW.out.size _, HW1.out.alloc HW1.out.size _⟩
            intro q hq
            rw [take_snoc HPK.out] at hq
            rcases List.mem_append.1 hq with hq | hq
            · exact HALL.out q hq
            · rw [List.mem_singleton.1 hq]
              exact HE.out
          case measure => simp [intOf]; omega
    · have hkl : k = L.length := by omega
      subst hkl
      go_wp2_with fail
      go_ret
      exact ⟨true, rfl, ⟨fun _ => inP_of HP.out HALL.out, fun _ => rfl⟩, HW.out⟩
end Go.Proofs.Ytmpcoclgcldclaa
