/-
  The conditions of functions of the translation, written out by a program of mine (wip/v/gen.lean); the kernel holds each against the code.
-/
import Derived.Test.YthhpdcegkbfijaaVText
import Derived.Test.YthhpdcegkbfijaaChecked
namespace Go.Proofs.Ythhpdcegkbfijaa.T
open Go.Proofs.Ythhpdcegkbfijaa.V
set_option linter.unusedVariables false
set_option maxRecDepth 100000

noncomputable abbrev PR : Program := Try.prog
theorem follows : PR.follows .mixedOrders = true := by kernel_rfl

/-- drover/droverlaw15.ShareOrders -/
def f3 (x0 x1 : Value) (w0 : World) (R : Kv) : Prop :=
  bx 23 x0 w0 fun v1 w2 =>
  Ret PR 8 #[] w2 fun v5 w6 =>
  pO (unO .not v5) fun v7 =>
  gB (X := Value) v7 false undef (fun K75 =>
    pO (lenO x1) fun v76 =>
    pO (arithO .gtr v76 (.int .i64 100)) fun v77 =>
    K75 v77 w6) w6 fun x43 w11 =>
  pO (pkO v7 (.bool true) x43) fun v44 =>
  cnd v44 (
    Ret PR 8 #[] w11 fun v46 w47 =>
    R v46 w47) (
    lN 4 v1 w11 fun v49 =>
    Ret PR 9 #[v49, x1] w11 fun v50 w51 =>
    pO (exO v50 0) fun v52 =>
    pO (exO v50 1) fun v53 =>
    ∃ C55 : World → Prop, C55 w51.drew ∧
    lNC C55 4 v1 fun v56 =>
    Ret PR 11 #[x1] w51.drew fun v57 w58 =>
    C55 w58 ∧
    Ret PR 10 #[v56, v57] w58 fun v59 w60 =>
    pO (exO v59 0) fun v61 =>
    pO (exO v59 1) fun v62 =>
    pO (cmpO false (eqlO v53 v62)) fun v64 =>
    gB (X := Value) v64 true undef (fun K72 =>
      Ret PR 12 #[v52, v61] w60 fun v73 w74 =>
      K72 v73 w74) w60 fun x70 w68 =>
    pO (pkO v64 x70 (.bool false)) fun v71 =>
    R v71 w68)
def a3 : Ann := (.two .nil (.two (.two .nil (.two (.two .nil .nil) .nil)) (.two .nil (.two (.planB [(1, .pure), (0, .load), (2, .hardF), (3, .hard), (4, .pure), (5, .pure), (6, .pure), (7, .pure), (8, .pure)]) (.two .nil .nil)))))
theorem f3_ret {x0 x1 : Value} {w0 : World} {R : Kv} (h : f3 x0 x1 w0 R) : Ret PR 3 #[x0, x1] w0 R :=
  ret_of_vc (fn := Try.f3) (c := body Try.f3) (x := a3) (args := [x0, x1]) follows Try.func3 (body_eq (by kernel_rfl)) (by kernel_rfl) (Nat.le_of_ble_eq_true (by kernel_rfl))
    (Eq.mp (show f3 x0 x1 w0 R = vcF PR Try.f3.results.toList (body Try.f3) a3 [x0, x1] w0 R by kernel_rfl) h)

/-- drover/droverlaw15.ShareTurns -/
def f4 (x0 x1 x2 : Value) (w0 : World) (R : Kv) : Prop :=
  bx 23 x0 w0 fun v1 w2 =>
  Ret PR 8 #[] w2 fun v5 w6 =>
  pO (unO .not v5) fun v7 =>
  gB (X := Value) v7 false undef (fun K203 =>
    pO (lenO x1) fun v204 =>
    pO (arithO .gtr v204 (.int .i64 100)) fun v205 =>
    K203 v205 w6) w6 fun x107 w11 =>
  pO (pkO v7 (.bool true) x107) fun v108 =>
  gB (X := Value) v108 false undef (fun K200 =>
    pO (lenO x1) fun v201 =>
    pO (cmpO false (eqlO v201 (.int .i64 0))) fun v202 =>
    K200 v202 w11) w11 fun x156 w112 =>
  pO (pkO v108 (.bool true) x156) fun v157 =>
  cnd v157 (
    Ret PR 8 #[] w112 fun v159 w160 =>
    R v159 w160) (
    pO (cviO .i64 x2) fun v162 =>
    pO (lenO x1) fun v163 =>
    pO (arithO .rem v162 v163) fun v164 =>
    pO (cutO 6 x1 (some v164) none) fun v167 =>
    sv PR (Builtin.append_ #[24, 24] 24 #[(.slice none 0 0), v167]) w112 fun v168 w169 =>
    pO (cutO 6 x1 none (some v164)) fun v171 =>
    sv PR (Builtin.append_ #[24, 24] 24 #[v168, v171]) w169 fun v172 w173 =>
    lN 4 v1 w173 fun v175 =>
    Ret PR 9 #[v175, x1] w173 fun v176 w177 =>
    pO (exO v176 0) fun v178 =>
    pO (exO v176 1) fun v179 =>
    lN 4 v1 w177 fun v181 =>
    Ret PR 9 #[v181, v172] w177 fun v182 w183 =>
    pO (exO v182 0) fun v184 =>
    pO (exO v182 1) fun v185 =>
    pO (cmpO false (eqlO v179 (.int .i64 0))) fun v187 =>
    pO (cmpO false (eqlO v185 (.int .i64 0))) fun v188 =>
    pO (cmpO false (eqbO v187 v188)) fun v189 =>
    gB (X := Value) v189 true undef (fun K197 =>
      Ret PR 12 #[v178, v184] w183 fun v198 w199 =>
      K197 v198 w199) w183 fun x195 w193 =>
    pO (pkO v189 x195 (.bool false)) fun v196 =>
    R v196 w193)
def a4 : Ann := (.two .nil (.two (.two .nil (.two (.two .nil .nil) .nil)) (.two .nil (.two .nil (.two .nil (.two .nil (.two .nil (.two .nil (.two .nil .nil)))))))))
theorem f4_ret {x0 x1 x2 : Value} {w0 : World} {R : Kv} (h : f4 x0 x1 x2 w0 R) : Ret PR 4 #[x0, x1, x2] w0 R :=
  ret_of_vc (fn := Try.f4) (c := body Try.f4) (x := a4) (args := [x0, x1, x2]) follows Try.func4 (body_eq (by kernel_rfl)) (by kernel_rfl) (Nat.le_of_ble_eq_true (by kernel_rfl))
    (Eq.mp (show f4 x0 x1 x2 w0 R = vcF PR Try.f4.results.toList (body Try.f4) a4 [x0, x1, x2] w0 R by kernel_rfl) h)

/-- drover/droverlaw15.ShareMoves -/
def f5 (x0 x1 x2 : Value) (w0 : World) (R : Kv) : Prop :=
  bx 23 x0 w0 fun v1 w2 =>
  bx 23 x2 w2 fun v3 w4 =>
  Ret PR 8 #[] w4 fun v7 w8 =>
  pO (unO .not v7) fun v9 =>
  gB (X := Value) v9 false undef (fun K2161 =>
    pO (lenO x1) fun v2162 =>
    pO (arithO .gtr v2162 (.int .i64 100)) fun v2163 =>
    K2161 v2163 w8) w8 fun x1087 w13 =>
  pO (pkO v9 (.bool true) x1087) fun v1088 =>
  gB (X := Value) v1088 false undef (fun K2158 =>
    pO (lenO x1) fun v2159 =>
    pO (cmpO false (eqlO v2159 (.int .i64 0))) fun v2160 =>
    K2158 v2160 w13) w13 fun x1625 w1092 =>
  pO (pkO v1088 (.bool true) x1625) fun v1626 =>
  cnd v1626 (
    Ret PR 8 #[] w1092 fun v1628 w1629 =>
    R v1628 w1629) (
    lN 4 v1 w1092 fun v1631 =>
    Ret PR 9 #[v1631, x1] w1092 fun v1632 w1633 =>
    pO (exO v1632 0) fun v1634 =>
    pO (exO v1632 1) fun v1635 =>
    pO (cmpO true (eqlO v1635 (.int .i64 0))) fun v1638 =>
    cnd v1638 (
      pO (lenO v1634) fun v1640 =>
      pO (cmpO false (eqlO v1640 (.int .i64 0))) fun v1641 =>
      R v1641 w1633) (
      pO (ixsO 6 x1 (.int .i64 0)) fun v1643 =>
      pO (faO 0 v1643) fun v1644 =>
      l1 v1644 w1633 fun v1645 =>
      Ret PR 13 #[v1634, v1645] w1633 fun v1647 w1648 =>
      sv PR (Builtin.append_ #[24, 24] 24 #[(.slice none 0 0), x1]) w1648 fun v1651 w1652 =>
      join (X := Value × Value) (fun x1901 w1664 => ∀ _ : Env,
        join (X := Unit) (fun x1990 w1937 => ∀ _ : Env,
          pO (ixsO 6 x1 (.int .i64 0)) fun v1992 =>
          lN 6 v1992 w1937 fun v1993 =>
          pO (ixsO 6 v1651 (.int .i64 0)) fun v1994 =>
          stW 6 v1994 v1993 w1937 fun w1995 =>
          pO (ixsO 6 x1 (.int .i64 0)) fun v1997 =>
          pO (faO 1 v1997) fun v1998 =>
          l1 v1998 w1995 fun v1999 =>
          pO (arithO .add v1999 (.int .i64 1)) fun v2000 =>
          sv PR (Builtin.min_ #[2, 2] 2 #[v2000, (.int .i64 1000)]) w1995 fun v2001 w2002 =>
          pO (ixsO 6 v1651 (.int .i64 0)) fun v2003 =>
          pO (faO 1 v2003) fun v2004 =>
          stW 1 v2004 v2001 w2002 fun w2005 =>
          lN 4 v1 w2005 fun v2007 =>
          Ret PR 9 #[v2007, v1651] w2005 fun v2008 w2009 =>
          pO (exO v2008 0) fun v2010 =>
          pO (exO v2008 1) fun v2011 =>
          Ret PR 13 #[v2010, v1645] w2009 fun v2013 w2014 =>
          pO (cmpO false (eqlO v2011 (.int .i64 0))) fun v2016 =>
          gB (X := Value) v2016 true undef (fun K2041 =>
            pO (arithO .geq v2013 (.int .i64 0)) fun v2042 =>
            K2041 v2042 w2014) w2014 fun x2030 w2019 =>
          pO (pkO v2016 x2030 (.bool false)) fun v2031 =>
          gB (X := Value) v2031 true undef (fun K2039 =>
            pO (arithO .leq v2013 v1647) fun v2040 =>
            K2039 v2040 w2019) w2019 fun x2037 w2035 =>
          pO (pkO v2031 x2037 (.bool false)) fun v2038 =>
          R v2038 w2035)
        (fun K2043 =>
          pO (cmpO false (eqlO x1901.2 (.int .i64 0))) fun v2045 =>
          cnd v2045 (
            lN 4 x1901.1 w1664 fun v2047 =>
            pO (ixsO 6 v1651 (.int .i64 0)) fun v2048 =>
            pO (faO 2 v2048) fun v2049 =>
            stW 4 v2049 v2047 w1664 fun w2050 =>
            lN 4 v1 w2050 fun v2052 =>
            Ret PR 9 #[v2052, v1651] w2050 fun v2053 w2054 =>
            pO (exO v2053 0) fun v2055 =>
            pO (exO v2053 1) fun v2056 =>
            pO (cmpO true (eqlO v2056 (.int .i64 0))) fun v2058 =>
            gB (X := Value) v2058 false undef (fun K2134 =>
              pO (lenO v2055) fun v2135 =>
              pO (lenO v1634) fun v2136 =>
              pO (cmpO true (eqlO v2135 v2136)) fun v2137 =>
              K2134 v2137 w2054) w2054 fun x2099 w2064 =>
            pO (pkO v2058 (.bool true) x2099) fun v2100 =>
            gB (X := Value) v2100 false undef (fun K2130 =>
              Ret PR 13 #[v2055, v1645] w2064 fun v2131 w2132 =>
              pO (arithO .lss v2131 v1647) fun v2133 =>
              K2130 v2133 w2132) w2064 fun x2118 w2106 =>
            pO (pkO v2100 (.bool true) x2118) fun v2119 =>
            gB (X := Value) v2119 false undef (fun K2128 =>
              pO (arithO .lss v1647 (.int .i64 0)) fun v2129 =>
              K2128 v2129 w2106) w2106 fun x2125 w2122 =>
            pO (pkO v2119 (.bool true) x2125) fun v2126 =>
            cnd v2126 (
              R (.bool false) w2122) (
              K2043 () w2122)) (
            K2043 () w1664)))
      (fun K2138 =>
        ∃ C2139 : World → Prop, C2139 w1652.drew ∧
        pO (ixsO 6 x1 (.int .i64 0)) fun v2140 =>
        pO (faO 2 v2140) fun v2141 =>
        lNC C2139 4 v2141 fun v2142 =>
        lNC C2139 4 v3 fun v2143 =>
        (
          Ret PR 14 #[v2142, v2143] w1652.drew fun v2144 w2145 =>
          pO (exO v2144 0) fun v2146 =>
          pO (exO v2144 1) fun v2147 =>
          sv PR (Instr.alloc 23 true (.tuple #[])) w2145 fun v2148 w2149 =>
          C2139 w2149 ∧
          stW 4 v2148 v2146 w2149 fun w2150 =>
          K2138 (v2148, v2147) w2150) ∧ (
          sv PR (Instr.alloc 23 true (.tuple #[])) w1652.drew fun v2151 w2152 =>
          C2139 w2152 ∧
          Ret PR 14 #[v2142, v2143] w2152 fun v2153 w2154 =>
          pO (exO v2153 0) fun v2155 =>
          pO (exO v2153 1) fun v2156 =>
          stW 4 v2151 v2155 w2154 fun w2157 =>
          K2138 (v2151, v2156) w2157))))
def a5 : Ann := (.two .nil (.two (.two .nil (.two (.two .nil .nil) .nil)) (.two .nil (.two (.two .nil (.two (.two .nil .nil) .nil)) (.two .nil (.two .nil (.two .nil (.two .nil (.join [54, 55, 56, 57, 58, 59, 53, 60, 61, 12, 13] [12, 13] (.planT (.newC (.op 0 .pure (.op 1 .pure (.op 2 .pure (.op 3 .load (.op 4 .load (.alt 5 .hard (.op 6 .pure (.op 7 .pure (.op 8 .pure (.op 9 .hardF (.op 10 .hard (.op 11 .pure .done)))))) (.alt 9 .hardF (.op 5 .hard (.op 6 .pure (.op 7 .pure (.op 8 .pure (.op 10 .hard (.op 11 .pure .done)))))) .stop))))))))) (.join [62, 63, 64, 65, 66, 67, 69, 70, 71, 68, 72, 73, 14, 15, 74, 75, 76, 77, 78, 79, 80, 81, 82, 83, 84, 85, 86, 87, 88, 89, 90, 91, 92, 93, 6] [] (.two .nil (.two (.two .nil (.two .nil (.two .nil (.two (.two .nil .nil) .nil)))) .nil)) (.two .nil (.two .nil (.two .nil (.two .nil (.two .nil .nil)))))))))))))))
theorem f5_ret {x0 x1 x2 : Value} {w0 : World} {R : Kv} (h : f5 x0 x1 x2 w0 R) : Ret PR 5 #[x0, x1, x2] w0 R :=
  ret_of_vc (fn := Try.f5) (c := body Try.f5) (x := a5) (args := [x0, x1, x2]) follows Try.func5 (body_eq (by kernel_rfl)) (by kernel_rfl) (Nat.le_of_ble_eq_true (by kernel_rfl))
    (Eq.mp (show f5 x0 x1 x2 w0 R = vcF PR Try.f5.results.toList (body Try.f5) a5 [x0, x1, x2] w0 R by kernel_rfl) h)

/-- drover/droverlaw15.ShareFirsts -/
def f6 (x0 x1 x2 : Value) (w0 : World) (R : Kv) : Prop :=
  bx 23 x0 w0 fun v1 w2 =>
  Ret PR 8 #[] w2 fun v5 w6 =>
  pO (unO .not v5) fun v7 =>
  gB (X := Value) v7 false undef (fun K151 =>
    pO (lenO x2) fun v152 =>
    pO (arithO .gtr v152 (.int .i64 100)) fun v153 =>
    K151 v153 w6) w6 fun x81 w11 =>
  pO (pkO v7 (.bool true) x81) fun v82 =>
  gB (X := Value) v82 false undef (fun K148 =>
    pO (lenO x1) fun v149 =>
    pO (arithO .gtr v149 (.int .i64 100)) fun v150 =>
    K148 v150 w11) w11 fun x117 w86 =>
  pO (pkO v82 (.bool true) x117) fun v118 =>
  cnd v118 (
    Ret PR 8 #[] w86 fun v120 w121 =>
    R v120 w121) (
    lN 4 v1 w86 fun v123 =>
    Ret PR 15 #[v123, x1, x2] w86 fun v124 w125 =>
    pO (exO v124 0) fun v126 =>
    pO (exO v124 1) fun v127 =>
    ∃ C129 : World → Prop, C129 w125.drew ∧
    lNC C129 4 v1 fun v130 =>
    Ret PR 11 #[x2] w125.drew fun v131 w132 =>
    C129 w132 ∧
    Ret PR 16 #[v130, x1, v131] w132 fun v133 w134 =>
    pO (exO v133 0) fun v135 =>
    pO (exO v133 1) fun v136 =>
    pO (cmpO false (eqlO v126 v135)) fun v138 =>
    gB (X := Value) v138 true undef (fun K146 =>
      pO (cmpO false (eqlO v127 v136)) fun v147 =>
      K146 v147 w134) w134 fun x144 w142 =>
    pO (pkO v138 x144 (.bool false)) fun v145 =>
    R v145 w142)
def a6 : Ann := (.two .nil (.two (.two .nil (.two (.two .nil .nil) .nil)) (.two .nil (.two (.planB [(1, .pure), (2, .pure), (0, .load), (3, .hardF), (4, .hard), (5, .pure), (6, .pure), (7, .pure), (8, .pure), (9, .pure)]) (.two .nil .nil)))))
theorem f6_ret {x0 x1 x2 : Value} {w0 : World} {R : Kv} (h : f6 x0 x1 x2 w0 R) : Ret PR 6 #[x0, x1, x2] w0 R :=
  ret_of_vc (fn := Try.f6) (c := body Try.f6) (x := a6) (args := [x0, x1, x2]) follows Try.func6 (body_eq (by kernel_rfl)) (by kernel_rfl) (Nat.le_of_ble_eq_true (by kernel_rfl))
    (Eq.mp (show f6 x0 x1 x2 w0 R = vcF PR Try.f6.results.toList (body Try.f6) a6 [x0, x1, x2] w0 R by kernel_rfl) h)

/-- drover/droverlaw15.ShareFirst -/
def f7 (x0 x1 : Value) (w0 : World) (R : Kv) : Prop :=
  bx 23 x0 w0 fun v1 w2 =>
  Ret PR 8 #[] w2 fun v5 w6 =>
  pO (unO .not v5) fun v7 =>
  gB (X := Value) v7 false undef (fun K3961 =>
    pO (lenO x1) fun v3962 =>
    pO (arithO .gtr v3962 (.int .i64 60)) fun v3963 =>
    K3961 v3963 w6) w6 fun x1986 w11 =>
  pO (pkO v7 (.bool true) x1986) fun v1987 =>
  cnd v1987 (
    Ret PR 8 #[] w11 fun v1989 w1990 =>
    R v1989 w1990) (
    lN 4 v1 w11 fun v1992 =>
    Ret PR 9 #[v1992, x1] w11 fun v1993 w1994 =>
    pO (exO v1993 0) fun v1995 =>
    pO (exO v1993 1) fun v1996 =>
    pO (cmpO true (eqlO v1996 (.int .i64 0))) fun v1999 =>
    cnd v1999 (
      lN 4 v1 w1994 fun v2001 =>
      Ret PR 15 #[v2001, (.slice none 0 0), x1] w1994 fun v2002 w2003 =>
      pO (exO v2002 0) fun v2004 =>
      pO (exO v2002 1) fun v2005 =>
      pO (cmpO false (eqlO v2005 v1996)) fun v2007 =>
      R v2007 w2003) (
      loopV (X := Value) v1995 w1994 (fun K3319 x3318 w2035 => ∀ _ : Env,
        pO (lenO x3318) fun v3322 =>
        pO (arithO .gtr v3322 (.int .i64 0)) fun v3323 =>
        cnd v3323 (
          lN 4 v1 w2035 fun v3325 =>
          Ret PR 15 #[v3325, x3318, x1] w2035 fun v3326 w3327 =>
          pO (exO v3326 0) fun v3328 =>
          pO (exO v3326 1) fun v3329 =>
          pO (cmpO true (eqlO v3329 (.int .i64 0))) fun v3332 =>
          gB (X := Value) v3332 false undef (fun K3346 =>
            pO (ixsO 1 x3318 (.int .i64 0)) fun v3347 =>
            l1 v3347 w3327 fun v3348 =>
            pO (cmpO true (eqlO v3328 v3348)) fun v3349 =>
            K3346 v3349 w3327) w3327 fun x3342 w3338 =>
          pO (pkO v3332 (.bool true) x3342) fun v3343 =>
          cnd v3343 (
            R (.bool false) w3338) (
            pO (cutO 1 x3318 (some (.int .i64 1)) none) fun v3345 =>
            K3319 v3345 w3338)) (
          lN 4 v1 w2035 fun v3351 =>
          Ret PR 15 #[v3351, x3318, x1] w2035 fun v3352 w3353 =>
          pO (exO v3352 0) fun v3354 =>
          pO (exO v3352 1) fun v3355 =>
          pO (cmpO true (eqlO v3355 (.int .i64 3))) fun v3358 =>
          cnd v3358 (
            R (.bool false) w3353) (
            pO (lenO x1) fun v3362 =>
            pO (cmpO false (eqlO v3362 (.int .i64 0))) fun v3363 =>
            cnd v3363 (
              pO (lenO v1995) fun v3365 =>
              pO (cmpO false (eqlO v3365 (.int .i64 0))) fun v3366 =>
              R v3366 w3353) (
              pO (cutO 6 x1 (some (.int .i64 1)) none) fun v3368 =>
              lN 4 v1 w3353.drew fun v3369 =>
              Ret PR 9 #[v3369, v3368] w3353.drew fun v3370 w3371 =>
              pO (exO v3370 0) fun v3372 =>
              pO (exO v3370 1) fun v3373 =>
              pO (ixsO 6 x1 (.int .i64 0)) fun v3375 =>
              pO (faO 0 v3375) fun v3376 =>
              l1 v3376 w3371 fun v3377 =>
              Ret PR 13 #[v1995, v3377] w3371 fun v3378 w3379 =>
              pO (cmpO true (eqlO v3373 (.int .i64 0))) fun v3382 =>
              gB (X := Value) v3382 false undef (fun K3959 =>
                pO (arithO .lss v3378 (.int .i64 0)) fun v3960 =>
                K3959 v3960 w3379) w3379 fun x3672 w3385 =>
              pO (pkO v3382 (.bool true) x3672) fun v3673 =>
              gB (X := Value) v3673 false undef (fun K3954 =>
                pO (lenO v3372) fun v3955 =>
                pO (lenO v1995) fun v3956 =>
                pO (arithO .sub v3956 (.int .i64 1)) fun v3957 =>
                pO (cmpO true (eqlO v3955 v3957)) fun v3958 =>
                K3954 v3958 w3385) w3385 fun x3817 w3680 =>
              pO (pkO v3673 (.bool true) x3817) fun v3818 =>
              cnd v3818 (
                R (.bool false) w3680) (
                loopV (X := Value) (.int .i64 0) w3680 (fun K3918 x3917 w3846 => ∀ _ : Env,
                  pO (lenO v3372) fun v3921 =>
                  pO (arithO .lss x3917 v3921) fun v3922 =>
                  cnd v3922 (
                    join (X := Value) (fun x3940 w3931 => ∀ _ : Env,
                      pO (ixsO 1 v3372 x3917) fun v3942 =>
                      pO (ixsO 1 v1995 x3940) fun v3943 =>
                      l1 v3942 w3931.drew fun v3944 =>
                      l1 v3943 w3931.drew fun v3945 =>
                      pO (cmpO true (eqlO v3944 v3945)) fun v3946 =>
                      cnd v3946 (
                        R (.bool false) w3931.drew) (
                        pO (arithO .add x3917 (.int .i64 1)) fun v3948 =>
                        K3918 v3948 w3931.drew))
                    (fun K3949 =>
                      pO (arithO .geq x3917 v3378) fun v3951 =>
                      cnd v3951 (
                        pO (arithO .add x3917 (.int .i64 1)) fun v3952 =>
                        K3949 v3952 w3846) (
                        K3949 x3917 w3846))) (
                    R (.bool true) w3846)))))))))
def a7 : Ann := (.two .nil (.two (.two .nil (.two (.two .nil .nil) .nil)) (.two .nil (.two (.two .nil (.two (.two .nil (.two .nil .nil)) .nil)) (.two .nil (.two (.loop [45, 46, 47, 49, 50, 51, 52, 48, 53, 54, 10, 11, 55, 56, 57, 58, 59, 60, 61, 62, 63, 4, 64, 65, 9] [9] (.two (.two .nil (.two .nil .nil)) (.two .nil (.two (.two .nil (.two (.two .nil .nil) .nil)) .nil)))) (.two .nil (.two (.two .nil (.two (.two .nil .nil) .nil)) (.two (.two .nil (.two (.two .nil .nil) .nil)) (.two (.planA [(1, .pure), (2, .pure), (0, .load), (3, .hard), (4, .pure), (5, .pure), (6, .pure), (7, .pure), (8, .pure)]) (.two .nil (.two (.two .nil (.two (.two .nil .nil) .nil)) (.two (.two .nil (.loop [108, 109, 110, 111, 114, 18, 115, 116, 117, 118, 119, 120, 121, 122, 123, 124, 125, 126, 127, 128, 4, 112, 113, 17] [17] (.two (.two .nil (.two .nil .nil)) (.two (.two .nil (.join [115, 116, 117, 118, 119, 18] [18] (.two .nil (.two .nil .nil)) (.two (.planA [(0, .pure), (1, .pure), (2, .pure), (4, .pure), (5, .pure), (6, .pure), (3, .load), (7, .load), (8, .pure)]) (.two (.two .nil .nil) .nil)))) .nil)))) (.two .nil .nil))))))))))))))
theorem f7_ret {x0 x1 : Value} {w0 : World} {R : Kv} (h : f7 x0 x1 w0 R) : Ret PR 7 #[x0, x1] w0 R :=
  ret_of_vc (fn := Try.f7) (c := body Try.f7) (x := a7) (args := [x0, x1]) follows Try.func7 (body_eq (by kernel_rfl)) (by kernel_rfl) (Nat.le_of_ble_eq_true (by kernel_rfl))
    (Eq.mp (show f7 x0 x1 w0 R = vcF PR Try.f7.results.toList (body Try.f7) a7 [x0, x1] w0 R by kernel_rfl) h)

/-- drover/droverlaw15.awake -/
def f8 (w0 : World) (R : Kv) : Prop :=
  sv PR (Instr.build 23 #[(0, (.int .i64 10))]) w0 fun v2 w3 =>
  sv PR (Instr.build 23 #[(0, (.int .i64 4))]) w3 fun v4 w5 =>
  sv PR (Instr.build 37 #[(0, (.string ⟨#[97]⟩)), (1, (.int .i64 1)), (2, v4)]) w5 fun v6 w7 =>
  sv PR (Instr.build 23 #[(0, (.int .i64 4))]) w7 fun v8 w9 =>
  sv PR (Instr.build 37 #[(0, (.string ⟨#[98]⟩)), (1, (.int .i64 2)), (2, v8)]) w9 fun v10 w11 =>
  sv PR (Instr.buildSlice 24 2 #[(0, v6), (1, v10)]) w11 fun v12 w13 =>
  Ret PR 9 #[v2, v12] w13 fun v14 w15 =>
  pO (exO v14 0) fun v16 =>
  pO (exO v14 1) fun v17 =>
  pO (cmpO false (eqlO v17 (.int .i64 0))) fun v19 =>
  gB (X := Value) v19 true undef (fun K51 =>
    pO (lenO v16) fun v52 =>
    pO (cmpO false (eqlO v52 (.int .i64 2))) fun v53 =>
    K51 v53 w15) w15 fun x37 w23 =>
  pO (pkO v19 x37 (.bool false)) fun v38 =>
  gB (X := Value) v38 true undef (fun K47 =>
    pO (ixsO 1 v16 (.int .i64 0)) fun v48 =>
    l1 v48 w23 fun v49 =>
    pO (cmpO false (eqlO v49 (.string ⟨#[98]⟩))) fun v50 =>
    K47 v50 w23) w23 fun x45 w43 =>
  pO (pkO v38 x45 (.bool false)) fun v46 =>
  R v46 w43
def a8 : Ann := (.two .nil (.two .nil (.two .nil .nil)))
theorem f8_ret {w0 : World} {R : Kv} (h : f8 w0 R) : Ret PR 8 #[] w0 R :=
  ret_of_vc (fn := Try.f8) (c := body Try.f8) (x := a8) (args := []) follows Try.func8 (body_eq (by kernel_rfl)) (by kernel_rfl) (Nat.le_of_ble_eq_true (by kernel_rfl))
    (Eq.mp (show f8 w0 R = vcF PR Try.f8.results.toList (body Try.f8) a8 [] w0 R by kernel_rfl) h)

/-- drover/share.Order -/
def f9 (x0 x1 : Value) (w0 : World) (R : Kv) : Prop :=
  bx 23 x0 w0 fun v1 w2 =>
  pO (lenO x1) fun v6 =>
  loopV (X := Value × Value) ((.slice none 0 0), (.int .i64 0)) w2 (fun K997 x996 w35 => ∀ _ : Env,
    pO (arithO .lss x996.2 v6) fun v999 =>
    cnd v999 (
      pO (ixsO 6 x1 x996.2) fun v1003 =>
      lN 6 v1003 w35 fun v1004 =>
      sv PR (Instr.alloc 37 true (.tuple #[])) w35 fun v1005 w1006 =>
      stW 6 v1005 v1004 w1006 fun w1007 =>
      pO (faO 2 v1005) fun v1010 =>
      lN 4 v1010 w1007 fun v1011 =>
      lN 4 v1 w1007 fun v1012 =>
      pO (faO 1 v1005) fun v1013 =>
      l1 v1013 w1007 fun v1014 =>
      Ret PR 17 #[v1011, v1012, v1014] w1007 fun v1015 w1016 =>
      pO (exO v1015 0) fun v1017 =>
      pO (exO v1015 1) fun v1018 =>
      sv PR (Instr.alloc 48 true (.tuple #[])) w1016 fun v1019 w1020 =>
      stW 2 v1019 v1017 w1020 fun w1021 =>
      pO (cmpO true (eqlO v1018 (.int .i64 0))) fun v1023 =>
      cnd v1023 (
        R (.tuple #[(.slice none 0 0), v1018]) w1021) (
        pO (faO 0 v1005) fun v1025 =>
        l1 v1025 w1021 fun v1026 =>
        sv PR (Instr.buildSlice 26 1 #[(0, v1026)]) w1021 fun v1027 w1028 =>
        sv PR (Builtin.append_ #[26, 26] 26 #[x996.1, v1027]) w1028 fun v1029 w1030 =>
        pO (arithO .add x996.2 (.int .i64 1)) fun v1031 =>
        K997 (v1029, v1031) w1030)) (
      Ret PR 18 #[x996.1] w35 fun v1033 w1034 =>
      Ret PR 20 #[x996.1] w1034 fun v1037 w1038 =>
      Ret PR 19 #[v1037] w1038 fun v1039 w1040 =>
      pO (lenO v1039) fun v1041 =>
      pO (lenO x996.1) fun v1042 =>
      pO (arithO .lss v1041 v1042) fun v1043 =>
      cnd v1043 (
        R (.tuple #[(.slice none 0 0), (.int .i64 5)]) w1040) (
        Ret PR 21 #[] w1040 fun v1046 w1047 =>
        pO (lenO x1) fun v1050 =>
        loopV (X := Value) (.int .i64 0) w1047 (fun K1346 x1345 w1082 => ∀ _ : Env,
          pO (arithO .lss x1345 v1050) fun v1348 =>
          cnd v1348 (
            pO (ixsO 6 x1 x1345) fun v1352 =>
            lN 6 v1352 w1082 fun v1353 =>
            sv PR (Instr.alloc 37 true (.tuple #[])) w1082 fun v1354 w1355 =>
            stW 6 v1354 v1353 w1355 fun w1356 =>
            pO (faO 2 v1354) fun v1358 =>
            lN 4 v1358 w1356 fun v1359 =>
            lN 4 v1 w1356 fun v1360 =>
            pO (faO 1 v1354) fun v1361 =>
            l1 v1361 w1356 fun v1362 =>
            Ret PR 17 #[v1359, v1360, v1362] w1356 fun v1363 w1364 =>
            pO (exO v1363 0) fun v1365 =>
            pO (exO v1363 1) fun v1366 =>
            sv PR (Instr.alloc 48 true (.tuple #[])) w1364 fun v1367 w1368 =>
            stW 2 v1367 v1365 w1368 fun w1369 =>
            pO (faO 0 v1354) fun v1371 =>
            l1 v1371 w1369 fun v1372 =>
            Ret PR 22 #[x996.1, v1372] w1369 fun v1373 w1374 =>
            pO (exO v1373 0) fun v1375 =>
            pO (exO v1373 1) fun v1376 =>
            lN 2 v1367 w1374 fun v1377 =>
            sv PR (Instr.build 60 #[(0, v1377), (1, v1375)]) w1374 fun v1378 w1379 =>
            Ret PR 23 #[v1046, v1378] w1379 fun v1380 w1381 =>
            pO (arithO .add x1345 (.int .i64 1)) fun v1382 =>
            K1346 v1382 w1381) (
            loopV (X := Value) (.slice none 0 0) w1082 (fun K1454 x1453 w1406 => ∀ _ : Env,
              Ret PR 24 #[v1046] w1406 fun v1457 w1458 =>
              pO (arithO .gtr v1457 (.int .i64 0)) fun v1459 =>
              cnd v1459 (
                Ret PR 25 #[v1046] w1458 fun v1461 w1462 =>
                pO (exO v1461 0) fun v1463 =>
                pO (exO v1461 1) fun v1464 =>
                pO (exO v1461 2) fun v1465 =>
                sv PR (Instr.alloc 60 true (.tuple #[])) w1462 fun v1466 w1467 =>
                stW 3 v1466 v1464 w1467 fun w1468 =>
                pO (faO 2 v1466) fun v1469 =>
                l1 v1469 w1468 fun v1470 =>
                pO (ixsO 1 x996.1 v1470) fun v1471 =>
                l1 v1471 w1468 fun v1472 =>
                sv PR (Instr.buildSlice 26 1 #[(0, v1472)]) w1468 fun v1473 w1474 =>
                sv PR (Builtin.append_ #[26, 26] 26 #[x1453, v1473]) w1474 fun v1475 w1476 =>
                K1454 v1475 w1476) (
                R (.tuple #[x1453, (.int .i64 0)]) w1458)))))))
def a9 : Ann := (.two .nil (.two .nil (.two (.two .nil (.loop [25, 26, 27, 8, 29, 30, 31, 32, 33, 34, 28, 35, 36, 9, 10, 37, 38, 39, 4, 5, 40, 41, 42, 43, 44, 6, 45, 24] [6, 24] (.two .nil (.two (.two .nil .nil) (.two (.two .nil (.two (.two .nil (.two .nil (.two (.two .nil .nil) .nil))) .nil)) .nil))))) (.two .nil (.two (.two .nil (.two (.two .nil .nil) .nil)) (.two .nil (.two (.two .nil (.loop [59, 60, 61, 13, 63, 64, 65, 66, 67, 68, 62, 69, 70, 14, 15, 72, 73, 74, 75, 71, 76, 77, 16, 17, 78, 79, 80, 81, 82, 83, 58] [58] (.two .nil (.two (.two .nil .nil) (.two (.two .nil (.two .nil (.two .nil .nil))) .nil))))) (.two .nil (.two (.loop [84, 85, 86, 88, 89, 87, 90, 91, 92, 20, 19, 21, 93, 94, 95, 96, 97, 98, 99, 100, 18] [18] (.two (.two .nil (.two .nil .nil)) (.two .nil .nil))) (.two .nil .nil))))))))))
theorem f9_ret {x0 x1 : Value} {w0 : World} {R : Kv} (h : f9 x0 x1 w0 R) : Ret PR 9 #[x0, x1] w0 R :=
  ret_of_vc (fn := Try.f9) (c := body Try.f9) (x := a9) (args := [x0, x1]) follows Try.func9 (body_eq (by kernel_rfl)) (by kernel_rfl) (Nat.le_of_ble_eq_true (by kernel_rfl))
    (Eq.mp (show f9 x0 x1 w0 R = vcF PR Try.f9.results.toList (body Try.f9) a9 [x0, x1] w0 R by kernel_rfl) h)

/-- drover/droverref15.Order -/
def f10 (x0 x1 : Value) (w0 : World) (R : Kv) : Prop :=
  bx 23 x0 w0 fun v1 w2 =>
  loopV (X := Value) (.int .i64 0) w2 (fun K4866 x4865 w34 => ∀ _ : Env,
    pO (lenO x1) fun v4869 =>
    pO (arithO .lss x4865 v4869) fun v4870 =>
    cnd v4870 (
      join (X := Value) (fun x4894 w4889 => ∀ _ : Env,
        pO (cmpO true (eqlO x4894 (.int .i64 0))) fun v4896 =>
        cnd v4896 (
          R (.tuple #[(.slice none 0 0), x4894]) w4889) (
          pO (arithO .add x4865 (.int .i64 1)) fun v4898 =>
          K4866 v4898 w4889))
      (fun K4899 =>
        ∃ C4900 : World → Prop, C4900 w34.drew ∧
        pO (ixsO 6 x1 x4865) fun v4901 =>
        pO (faO 2 v4901) fun v4902 =>
        pO (ixsO 6 x1 x4865) fun v4903 =>
        pO (faO 1 v4903) fun v4904 =>
        lNC C4900 4 v4902 fun v4905 =>
        lNC C4900 4 v1 fun v4906 =>
        l1C C4900 v4904 fun v4907 =>
        (
          Ret PR 26 #[v4905, v4906, v4907] w34.drew fun v4908 w4909 =>
          pO (exO v4908 0) fun v4910 =>
          pO (exO v4908 1) fun v4911 =>
          sv PR (Instr.alloc 64 true (.tuple #[])) w4909 fun v4912 w4913 =>
          C4900 w4913 ∧
          stW 2 v4912 v4910 w4913 fun w4914 =>
          K4899 v4911 w4914) ∧ (
          sv PR (Instr.alloc 64 true (.tuple #[])) w34.drew fun v4915 w4916 =>
          C4900 w4916 ∧
          Ret PR 26 #[v4905, v4906, v4907] w4916 fun v4917 w4918 =>
          pO (exO v4917 0) fun v4919 =>
          pO (exO v4917 1) fun v4920 =>
          stW 2 v4915 v4919 w4918 fun w4921 =>
          K4899 v4920 w4921))) (
      loopV (X := Value × Value) ((.slice none 0 0), (.int .i64 0)) w34 (fun K6519 x6518 w4993 => ∀ _ : Env,
        pO (lenO x1) fun v6522 =>
        pO (arithO .lss x6518.2 v6522) fun v6523 =>
        cnd v6523 (
          loopV (X := Value) (.int .i64 0) w4993 (fun K6994 x6993 w6546 => ∀ _ : Env,
            pO (arithO .lss x6993 x6518.2) fun v6997 =>
            cnd v6997 (
              pO (ixsO 6 x1 x6993) fun v7000 =>
              pO (faO 0 v7000) fun v7001 =>
              pO (ixsO 6 x1 x6518.2) fun v7002 =>
              pO (faO 0 v7002) fun v7003 =>
              l1 v7001 w6546.drew fun v7004 =>
              l1 v7003 w6546.drew fun v7005 =>
              pO (cmpO false (eqlO v7004 v7005)) fun v7006 =>
              cnd v7006 (
                R (.tuple #[(.slice none 0 0), (.int .i64 5)]) w6546.drew) (
                pO (arithO .add x6993 (.int .i64 1)) fun v7008 =>
                K6994 v7008 w6546.drew)) (
              pO (ixsO 6 x1 x6518.2) fun v7010 =>
              lN 6 v7010 w6546 fun v7011 =>
              sv PR (Instr.buildSlice 31 1 #[(0, v7011)]) w6546 fun v7012 w7013 =>
              sv PR (Builtin.append_ #[31, 31] 31 #[x6518.1, v7012]) w7013 fun v7014 w7015 =>
              loopV (X := Value) x6518.2 w7015 (fun K7160 x7159 w7044 => ∀ _ : Env,
                pO (arithO .gtr x7159 (.int .i64 0)) fun v7163 =>
                gd v7163 true (fun K7164 =>
                  K7164 x1 w7044.drew) w7044.drew fun v7165 w7166 =>
                gd v7163 true (fun K7167 =>
                  K7167 x6518.2 w7166) w7166 fun v7168 w7169 =>
                gd v7163 true (fun K7170 =>
                  pO (ixsO 6 v7165 v7168) fun v7171 =>
                  K7170 v7171 w7169) w7169 fun v7172 w7173 =>
                gd v7163 true (fun K7174 =>
                  K7174 v7014 w7173) w7173 fun v7175 w7176 =>
                gd v7163 true (fun K7177 =>
                  K7177 x7159 w7176) w7176 fun v7178 w7179 =>
                gd v7163 true (fun K7180 =>
                  pO (arithO .sub v7178 (.int .i64 1)) fun v7181 =>
                  K7180 v7181 w7179) w7179 fun v7182 w7183 =>
                gd v7163 true (fun K7184 =>
                  pO (ixsO 6 v7175 v7182) fun v7185 =>
                  K7184 v7185 w7183) w7183 fun v7186 w7187 =>
                gd v7163 true (fun K7188 =>
                  lN 4 v1 w7187 fun v7189 =>
                  K7188 v7189 w7187) w7187 fun v7190 w7191 =>
                gd v7163 true (fun K7192 =>
                  lN 6 v7172 w7191 fun v7193 =>
                  K7192 v7193 w7191) w7191 fun v7194 w7195 =>
                gd v7163 true (fun K7196 =>
                  lN 6 v7186 w7195 fun v7197 =>
                  K7196 v7197 w7195) w7195 fun v7198 w7199 =>
                gd v7163 true (fun K7200 =>
                  Ret PR 27 #[v7190, v7194, v7198] w7199 fun v7201 w7202 =>
                  K7200 v7201 w7202) w7199 fun v7203 w7204 =>
                pO (pkO v7163 v7203 (.bool false)) fun v7205 =>
                cnd v7205 (
                  pO (arithO .sub x7159 (.int .i64 1)) fun v7207 =>
                  pO (ixsO 6 v7014 v7207) fun v7208 =>
                  lN 6 v7208 w7204 fun v7209 =>
                  pO (ixsO 6 v7014 x7159) fun v7210 =>
                  stW 6 v7210 v7209 w7204 fun w7211 =>
                  pO (arithO .sub x7159 (.int .i64 1)) fun v7212 =>
                  K7160 v7212 w7211) (
                  pO (ixsO 6 x1 x6518.2) fun v7213 =>
                  lN 6 v7213 w7204 fun v7214 =>
                  pO (ixsO 6 v7014 x7159) fun v7215 =>
                  stW 6 v7215 v7214 w7204 fun w7216 =>
                  pO (arithO .add x6518.2 (.int .i64 1)) fun v7217 =>
                  K6519 (v7014, v7217) w7216))))) (
          loopV (X := Value × Value) ((.slice none 0 0), (.int .i64 0)) w4993 (fun K7267 x7266 w7237 => ∀ _ : Env,
            pO (lenO x6518.1) fun v7270 =>
            pO (arithO .lss x7266.2 v7270) fun v7271 =>
            cnd v7271 (
              pO (ixsO 6 x6518.1 x7266.2) fun v7273 =>
              pO (faO 0 v7273) fun v7274 =>
              l1 v7274 w7237 fun v7275 =>
              sv PR (Instr.buildSlice 26 1 #[(0, v7275)]) w7237 fun v7276 w7277 =>
              sv PR (Builtin.append_ #[26, 26] 26 #[x7266.1, v7276]) w7277 fun v7278 w7279 =>
              pO (arithO .add x7266.2 (.int .i64 1)) fun v7280 =>
              K7267 (v7278, v7280) w7279) (
              R (.tuple #[x7266.1, (.int .i64 0)]) w7237))))))
def a10 : Ann := (.two .nil (.two (.two .nil (.loop [15, 16, 17, 18, 22, 23, 24, 25, 26, 27, 28, 29, 30, 31, 32, 33, 21, 34, 35, 7, 8, 36, 37, 38, 4, 5, 19, 20, 6] [6] (.two (.two .nil (.two .nil .nil)) (.two (.join [22, 23, 24, 25, 26, 27, 28, 29, 30, 31, 32, 33, 21, 34, 35, 7, 8] [8] (.planT (.newC (.op 0 .pure (.op 1 .pure (.op 2 .pure (.op 3 .pure (.op 6 .pure (.op 7 .pure (.op 8 .pure (.op 9 .pure (.op 4 .load (.op 5 .load (.op 10 .load (.alt 11 .hard (.op 12 .pure (.op 13 .pure (.op 14 .pure (.op 15 .hardF (.op 16 .hard (.op 17 .pure .done)))))) (.alt 15 .hardF (.op 11 .hard (.op 12 .pure (.op 13 .pure (.op 14 .pure (.op 16 .hard (.op 17 .pure .done)))))) .stop))))))))))))))) (.two .nil (.two (.two .nil .nil) .nil))) .nil)))) (.two .nil (.two (.two .nil (.loop [39, 40, 41, 42, 11, 45, 46, 47, 50, 51, 52, 53, 54, 55, 56, 57, 58, 59, 60, 4, 5, 48, 49, 61, 62, 63, 64, 65, 66, 67, 9, 68, 12, 69, 70, 71, 72, 73, 74, 75, 76, 77, 78, 79, 80, 81, 82, 83, 84, 85, 86, 87, 88, 89, 90, 91, 92, 93, 94, 95, 96, 97, 98, 99, 100, 43, 44, 10] [9, 10] (.two (.two .nil (.two .nil .nil)) (.two (.two (.two .nil (.loop [45, 46, 47, 50, 51, 52, 53, 54, 55, 56, 57, 58, 59, 60, 4, 5, 48, 49, 11] [11] (.two (.two .nil (.two .nil .nil)) (.two (.two (.planA [(0, .pure), (1, .pure), (2, .pure), (3, .pure), (5, .pure), (6, .pure), (7, .pure), (8, .pure), (4, .load), (9, .load), (10, .pure)]) (.two (.two .nil .nil) .nil)) .nil)))) (.two .nil (.two .nil (.two (.loop [69, 70, 71, 72, 73, 74, 75, 76, 77, 78, 79, 80, 81, 82, 83, 84, 85, 86, 87, 88, 89, 90, 91, 92, 93, 12] [12] (.two (.two (.planA [(0, .pure), (1, .pure), (2, .pure), (4, .pure), (5, .pure), (6, .pure), (8, .pure), (9, .pure), (10, .pure), (11, .pure), (3, .load), (7, .load), (12, .load), (13, .hard), (14, .pure)]) (.two .nil .nil)) (.two .nil .nil))) .nil)))) .nil)))) (.two .nil (.two (.two .nil (.loop [101, 102, 103, 104, 107, 108, 109, 110, 111, 112, 113, 114, 13, 105, 106, 14] [13, 14] (.two (.two .nil (.two .nil .nil)) (.two .nil .nil)))) (.two .nil .nil)))))))
theorem f10_ret {x0 x1 : Value} {w0 : World} {R : Kv} (h : f10 x0 x1 w0 R) : Ret PR 10 #[x0, x1] w0 R :=
  ret_of_vc (fn := Try.f10) (c := body Try.f10) (x := a10) (args := [x0, x1]) follows Try.func10 (body_eq (by kernel_rfl)) (by kernel_rfl) (Nat.le_of_ble_eq_true (by kernel_rfl))
    (Eq.mp (show f10 x0 x1 w0 R = vcF PR Try.f10.results.toList (body Try.f10) a10 [x0, x1] w0 R by kernel_rfl) h)

/-- drover/droverlaw15.plain -/
def f11 (x0 : Value) (w0 : World) (R : Kv) : Prop :=
  loopV (X := Value × Value) ((.slice none 0 0), (.int .i64 0)) w0 (fun K77 x76 w31 => ∀ _ : Env,
    pO (lenO x0) fun v80 =>
    pO (arithO .lss x76.2 v80) fun v81 =>
    cnd v81 (
      pO (ixsO 6 x0 x76.2) fun v83 =>
      pO (faO 0 v83) fun v84 =>
      pO (ixsO 6 x0 x76.2) fun v85 =>
      pO (faO 1 v85) fun v86 =>
      pO (ixsO 6 x0 x76.2) fun v87 =>
      pO (faO 2 v87) fun v88 =>
      l1 v84 w31.drew fun v89 =>
      l1 v86 w31.drew fun v90 =>
      lN 4 v88 w31.drew fun v91 =>
      sv PR (Instr.build 67 #[(0, v89), (1, v90), (2, v91)]) w31.drew fun v92 w93 =>
      sv PR (Instr.buildSlice 31 1 #[(0, v92)]) w93 fun v94 w95 =>
      sv PR (Builtin.append_ #[31, 31] 31 #[x76.1, v94]) w95 fun v96 w97 =>
      pO (arithO .add x76.2 (.int .i64 1)) fun v98 =>
      K77 (v96, v98) w97) (
      R x76.1 w31))
def a11 : Ann := (.two .nil (.two .nil (.two (.two .nil (.loop [5, 6, 7, 8, 11, 12, 13, 14, 15, 16, 17, 18, 19, 20, 21, 22, 23, 24, 25, 26, 27, 28, 29, 3, 9, 10, 4] [3, 4] (.two (.two .nil (.two .nil .nil)) (.two (.planA [(0, .pure), (1, .pure), (2, .pure), (3, .pure), (4, .pure), (6, .pure), (7, .pure), (8, .pure), (9, .pure), (11, .pure), (12, .pure), (13, .pure), (14, .pure), (5, .load), (10, .load), (15, .load), (16, .hard), (17, .hard), (18, .hard), (19, .pure)]) .nil)))) (.two .nil .nil))))
theorem f11_ret {x0 : Value} {w0 : World} {R : Kv} (h : f11 x0 w0 R) : Ret PR 11 #[x0] w0 R :=
  ret_of_vc (fn := Try.f11) (c := body Try.f11) (x := a11) (args := [x0]) follows Try.func11 (body_eq (by kernel_rfl)) (by kernel_rfl) (Nat.le_of_ble_eq_true (by kernel_rfl))
    (Eq.mp (show f11 x0 w0 R = vcF PR Try.f11.results.toList (body Try.f11) a11 [x0] w0 R by kernel_rfl) h)

/-- drover/droverref01.Same -/
def f12 (x0 x1 : Value) (w0 : World) (R : Kv) : Prop :=
  pO (lenO x0) fun v3 =>
  pO (lenO x1) fun v4 =>
  pO (cmpO true (eqlO v3 v4)) fun v5 =>
  cnd v5 (
    R (.bool false) w0) (
    loopV (X := Value) (.int .i64 0) w0 (fun K56 x55 w26 => ∀ _ : Env,
      pO (lenO x0) fun v59 =>
      pO (arithO .lss x55 v59) fun v60 =>
      cnd v60 (
        pO (ixsO 1 x0 x55) fun v63 =>
        pO (ixsO 1 x1 x55) fun v64 =>
        l1 v63 w26.drew fun v65 =>
        l1 v64 w26.drew fun v66 =>
        pO (cmpO true (eqlO v65 v66)) fun v67 =>
        cnd v67 (
          R (.bool false) w26.drew) (
          pO (arithO .add x55 (.int .i64 1)) fun v69 =>
          K56 v69 w26.drew)) (
        R (.bool true) w26)))
def a12 : Ann := (.two .nil (.two (.two .nil (.two (.two .nil .nil) .nil)) (.two (.two .nil (.loop [11, 12, 13, 14, 17, 18, 19, 20, 21, 22, 23, 24, 25, 4, 15, 16, 5] [5] (.two (.two .nil (.two .nil .nil)) (.two (.two (.planA [(0, .pure), (1, .pure), (2, .pure), (4, .pure), (5, .pure), (6, .pure), (3, .load), (7, .load), (8, .pure)]) (.two (.two .nil .nil) .nil)) .nil)))) (.two .nil .nil))))
theorem f12_ret {x0 x1 : Value} {w0 : World} {R : Kv} (h : f12 x0 x1 w0 R) : Ret PR 12 #[x0, x1] w0 R :=
  ret_of_vc (fn := Try.f12) (c := body Try.f12) (x := a12) (args := [x0, x1]) follows Try.func12 (body_eq (by kernel_rfl)) (by kernel_rfl) (Nat.le_of_ble_eq_true (by kernel_rfl))
    (Eq.mp (show f12 x0 x1 w0 R = vcF PR Try.f12.results.toList (body Try.f12) a12 [x0, x1] w0 R by kernel_rfl) h)

/-- drover/droverlaw15.place -/
def f13 (x0 x1 : Value) (w0 : World) (R : Kv) : Prop :=
  loopV (X := Value) (.int .i64 0) w0 (fun K44 x43 w18 => ∀ _ : Env,
    pO (lenO x0) fun v47 =>
    pO (arithO .lss x43 v47) fun v48 =>
    cnd v48 (
      pO (ixsO 1 x0 x43) fun v51 =>
      l1 v51 w18 fun v52 =>
      pO (cmpO false (eqlO v52 x1)) fun v53 =>
      cnd v53 (
        R x43 w18) (
        pO (arithO .add x43 (.int .i64 1)) fun v55 =>
        K44 v55 w18)) (
      R (.int .i64 (-1)) w18))
def a13 : Ann := (.two .nil (.two (.two .nil (.loop [6, 7, 8, 9, 12, 13, 14, 15, 16, 17, 18, 4, 10, 11, 5] [5] (.two (.two .nil (.two .nil .nil)) (.two (.two .nil (.two (.two .nil .nil) .nil)) .nil)))) (.two .nil .nil)))
theorem f13_ret {x0 x1 : Value} {w0 : World} {R : Kv} (h : f13 x0 x1 w0 R) : Ret PR 13 #[x0, x1] w0 R :=
  ret_of_vc (fn := Try.f13) (c := body Try.f13) (x := a13) (args := [x0, x1]) follows Try.func13 (body_eq (by kernel_rfl)) (by kernel_rfl) (Nat.le_of_ble_eq_true (by kernel_rfl))
    (Eq.mp (show f13 x0 x1 w0 R = vcF PR Try.f13.results.toList (body Try.f13) a13 [x0, x1] w0 R by kernel_rfl) h)

/-- drover/droverref03.Add -/
def f14 (x0 x1 : Value) (w0 : World) (R : Kv) : Prop :=
  bx 23 x0 w0 fun v1 w2 =>
  bx 23 x1 w2 fun v3 w4 =>
  sv PR (Instr.alloc 23 true (.tuple #[])) w4 fun v5 w6 =>
  lN 4 v1 w6 fun v9 =>
  Ret PR 28 #[v9] w6 fun v10 w11 =>
  pO (unO .not v10) fun v12 =>
  gB (X := Value) v12 false undef (fun K236 =>
    lN 4 v3 w11 fun v237 =>
    Ret PR 28 #[v237] w11 fun v238 w239 =>
    pO (unO .not v238) fun v240 =>
    K236 v240 w239) w11 fun x126 w16 =>
  pO (pkO v12 (.bool true) x126) fun v127 =>
  cnd v127 (
    sv PR (Instr.build 23 #[]) w16 fun v129 w130 =>
    stW 4 v5 v129 w130 fun w131 =>
    lN 4 v5 w131 fun v132 =>
    R (.tuple #[v132, (.int .i64 4)]) w131) (
    sv PR (Instr.alloc 23 true (.tuple #[])) w16 fun v134 w135 =>
    loopV (X := Value) (.int .i64 0) w135 (fun K208 x207 w152 => ∀ _ : Env,
      pO (arithO .lss x207 (.int .i64 4)) fun v211 =>
      cnd v211 (
        pO (ixaO 4 1 v1 x207) fun v213 =>
        pO (ixaO 4 1 v3 x207) fun v214 =>
        l1 v213 w152.drew fun v215 =>
        l1 v214 w152.drew fun v216 =>
        pO (arithO .add v215 v216) fun v217 =>
        pO (ixaO 4 1 v134 x207) fun v218 =>
        stW 1 v218 v217 w152.drew fun w219 =>
        pO (arithO .add x207 (.int .i64 1)) fun v220 =>
        K208 v220 w219) (
        lN 4 v134 w152 fun v223 =>
        Ret PR 28 #[v223] w152 fun v224 w225 =>
        pO (unO .not v224) fun v226 =>
        cnd v226 (
          sv PR (Instr.build 23 #[]) w225 fun v228 w229 =>
          stW 4 v5 v228 w229 fun w230 =>
          lN 4 v5 w230 fun v231 =>
          R (.tuple #[v231, (.int .i64 7)]) w230) (
          lN 4 v134 w225 fun v233 =>
          stW 4 v5 v233 w225 fun w234 =>
          lN 4 v5 w234 fun v235 =>
          R (.tuple #[v235, (.int .i64 0)]) w234))))
def a14 : Ann := (.two .nil (.two (.two .nil (.two (.two .nil .nil) .nil)) (.two .nil (.two (.two .nil (.loop [17, 18, 21, 22, 23, 24, 25, 26, 27, 28, 29, 19, 20, 7] [7] (.two (.two .nil (.two .nil .nil)) (.two (.planA [(0, .pure), (1, .pure), (2, .pure), (4, .pure), (5, .pure), (3, .load), (6, .load), (7, .pure), (8, .pure), (9, .hard)]) .nil)))) (.two (.two .nil (.two (.two .nil .nil) .nil)) (.two .nil .nil))))))
theorem f14_ret {x0 x1 : Value} {w0 : World} {R : Kv} (h : f14 x0 x1 w0 R) : Ret PR 14 #[x0, x1] w0 R :=
  ret_of_vc (fn := Try.f14) (c := body Try.f14) (x := a14) (args := [x0, x1]) follows Try.func14 (body_eq (by kernel_rfl)) (by kernel_rfl) (Nat.le_of_ble_eq_true (by kernel_rfl))
    (Eq.mp (show f14 x0 x1 w0 R = vcF PR Try.f14.results.toList (body Try.f14) a14 [x0, x1] w0 R by kernel_rfl) h)

/-- drover/share.First -/
def f15 (x0 x1 x2 : Value) (w0 : World) (R : Kv) : Prop :=
  bx 23 x0 w0 fun v1 w2 =>
  lN 4 v1 w2 fun v4 =>
  Ret PR 9 #[v4, x2] w2 fun v5 w6 =>
  pO (exO v5 0) fun v7 =>
  pO (exO v5 1) fun v8 =>
  pO (cmpO true (eqlO v8 (.int .i64 0))) fun v11 =>
  cnd v11 (
    R (.tuple #[(.string ⟨#[]⟩), v8]) w6) (
    pO (lenO v7) fun v15 =>
    loopV (X := Value) (.int .i64 0) w6 (fun K56 x55 w28 => ∀ _ : Env,
      pO (arithO .lss x55 v15) fun v58 =>
      cnd v58 (
        pO (ixsO 1 v7 x55) fun v62 =>
        l1 v62 w28 fun v63 =>
        Ret PR 29 #[x1, v63] w28 fun v65 w66 =>
        cnd v65 (
          R (.tuple #[v63, (.int .i64 0)]) w66) (
          pO (arithO .add x55 (.int .i64 1)) fun v68 =>
          K56 v68 w66)) (
        R (.tuple #[(.string ⟨#[]⟩), (.int .i64 3)]) w28)))
def a15 : Ann := (.two .nil (.two .nil (.two (.two .nil (.two (.two .nil .nil) .nil)) (.two (.two .nil (.loop [24, 25, 26, 11, 27, 28, 29, 30, 6, 7, 31, 23] [23] (.two .nil (.two (.two .nil .nil) (.two (.two .nil (.two .nil (.two (.two .nil .nil) .nil))) .nil))))) (.two .nil .nil)))))
theorem f15_ret {x0 x1 x2 : Value} {w0 : World} {R : Kv} (h : f15 x0 x1 x2 w0 R) : Ret PR 15 #[x0, x1, x2] w0 R :=
  ret_of_vc (fn := Try.f15) (c := body Try.f15) (x := a15) (args := [x0, x1, x2]) follows Try.func15 (body_eq (by kernel_rfl)) (by kernel_rfl) (Nat.le_of_ble_eq_true (by kernel_rfl))
    (Eq.mp (show f15 x0 x1 x2 w0 R = vcF PR Try.f15.results.toList (body Try.f15) a15 [x0, x1, x2] w0 R by kernel_rfl) h)

/-- drover/droverref15.First -/
def f16 (x0 x1 x2 : Value) (w0 : World) (R : Kv) : Prop :=
  bx 23 x0 w0 fun v1 w2 =>
  lN 4 v1 w2 fun v4 =>
  Ret PR 10 #[v4, x2] w2 fun v5 w6 =>
  pO (exO v5 0) fun v7 =>
  pO (exO v5 1) fun v8 =>
  pO (cmpO true (eqlO v8 (.int .i64 0))) fun v11 =>
  cnd v11 (
    R (.tuple #[(.string ⟨#[]⟩), v8]) w6) (
    loopV (X := Value) (.int .i64 0) w6 (fun K206 x205 w44 => ∀ _ : Env,
      pO (lenO v7) fun v209 =>
      pO (arithO .lss x205 v209) fun v210 =>
      cnd v210 (
        loopV (X := Value) (.int .i64 0) w44 (fun K269 x268 w235 => ∀ _ : Env,
          pO (lenO x1) fun v272 =>
          pO (arithO .lss x268 v272) fun v273 =>
          cnd v273 (
            pO (ixsO 1 v7 x205) fun v276 =>
            pO (ixsO 1 x1 x268) fun v277 =>
            l1 v276 w235.drew fun v278 =>
            l1 v277 w235.drew fun v279 =>
            pO (cmpO false (eqlO v278 v279)) fun v280 =>
            cnd v280 (
              pO (ixsO 1 v7 x205) fun v282 =>
              l1 v282 w235.drew fun v283 =>
              R (.tuple #[v283, (.int .i64 0)]) w235.drew) (
              pO (arithO .add x268 (.int .i64 1)) fun v284 =>
              K269 v284 w235.drew)) (
            pO (arithO .add x205 (.int .i64 1)) fun v285 =>
            K206 v285 w235))) (
        R (.tuple #[(.string ⟨#[]⟩), (.int .i64 3)]) w44)))
def a16 : Ann := (.two .nil (.two .nil (.two (.two .nil (.two (.two .nil .nil) .nil)) (.two (.two .nil (.loop [21, 22, 23, 24, 11, 27, 28, 29, 30, 33, 34, 35, 36, 37, 38, 39, 40, 41, 42, 43, 44, 45, 6, 7, 31, 32, 25, 26, 10] [10] (.two (.two .nil (.two .nil .nil)) (.two (.two .nil (.loop [27, 28, 29, 30, 33, 34, 35, 36, 37, 38, 39, 40, 41, 42, 43, 44, 45, 6, 7, 31, 32, 11] [11] (.two (.two .nil (.two .nil .nil)) (.two (.two (.planA [(0, .pure), (1, .pure), (2, .pure), (4, .pure), (5, .pure), (6, .pure), (3, .load), (7, .load), (8, .pure)]) (.two (.two .nil .nil) .nil)) .nil)))) .nil)))) (.two .nil .nil)))))
theorem f16_ret {x0 x1 x2 : Value} {w0 : World} {R : Kv} (h : f16 x0 x1 x2 w0 R) : Ret PR 16 #[x0, x1, x2] w0 R :=
  ret_of_vc (fn := Try.f16) (c := body Try.f16) (x := a16) (args := [x0, x1, x2]) follows Try.func16 (body_eq (by kernel_rfl)) (by kernel_rfl) (Nat.le_of_ble_eq_true (by kernel_rfl))
    (Eq.mp (show f16 x0 x1 x2 w0 R = vcF PR Try.f16.results.toList (body Try.f16) a16 [x0, x1, x2] w0 R by kernel_rfl) h)

/-- drover/vector.Share -/
def f17 (x0 x1 x2 : Value) (w0 : World) (R : Kv) : Prop :=
  bx 23 x0 w0 fun v1 w2 =>
  bx 23 x1 w2 fun v3 w4 =>
  sv PR (Instr.alloc 48 true (.tuple #[])) w4 fun v5 w6 =>
  lN 4 v1 w6 fun v9 =>
  Ret PR 30 #[v9] w6 fun v10 w11 =>
  pO (unO .not v10) fun v12 =>
  gB (X := Value) v12 false undef (fun K1216 =>
    lN 4 v3 w11 fun v1217 =>
    Ret PR 30 #[v1217] w11 fun v1218 w1219 =>
    pO (unO .not v1218) fun v1220 =>
    K1216 v1220 w1219) w11 fun x616 w16 =>
  pO (pkO v12 (.bool true) x616) fun v617 =>
  cnd v617 (
    sv PR (Instr.build 48 #[]) w16 fun v619 w620 =>
    stW 2 v5 v619 w620 fun w621 =>
    lN 2 v5 w621 fun v622 =>
    R (.tuple #[v622, (.int .i64 4)]) w621) (
    pO (arithO .lss x2 (.int .i64 1)) fun v625 =>
    gB (X := Value) v625 false undef (fun K1214 =>
      pO (arithO .gtr x2 (.int .i64 1000)) fun v1215 =>
      K1214 v1215 w16) w16 fun x921 w628 =>
    pO (pkO v625 (.bool true) x921) fun v922 =>
    cnd v922 (
      sv PR (Instr.build 48 #[]) w628 fun v924 w925 =>
      stW 2 v5 v924 w925 fun w926 =>
      lN 2 v5 w926 fun v927 =>
      R (.tuple #[v927, (.int .i64 2)]) w926) (
      sv PR (Instr.build 48 #[(0, (.int .u64 0)), (1, (.int .u64 1))]) w628 fun v929 w930 =>
      sv PR (Instr.alloc 48 true (.tuple #[])) w930 fun v931 w932 =>
      stW 2 v931 v929 w932 fun w933 =>
      lN 4 v1 w933 fun v936 =>
      loopV (X := Value) (.int .i64 0) w933 (fun K1134 x1133 w974 => ∀ _ : Env,
        pO (arithO .lss x1133 (.int .i64 4)) fun v1136 =>
        cnd v1136 (
          join (X := Unit) (fun x1174 w1172 => ∀ _ : Env,
            pO (arithO .add x1133 (.int .i64 1)) fun v1175 =>
            K1134 v1175 w1172)
          (fun K1176 =>
            sv PR (Instr.index 23 v936 x1133) w974 fun v1178 w1179 =>
            pO (ixaO 4 1 v3 x1133) fun v1182 =>
            l1 v1182 w1179 fun v1183 =>
            pO (cmpO false (eqlO v1183 (.int .i64 0))) fun v1184 =>
            cnd v1184 (
              K1176 () w1179) (
              pO (cviO .u64 v1178) fun v1186 =>
              pO (ixaO 4 1 v3 x1133) fun v1187 =>
              l1 v1187 w1179 fun v1188 =>
              pO (cviO .u64 v1188) fun v1189 =>
              pO (cviO .u64 x2) fun v1190 =>
              pO (arithO .mul v1189 v1190) fun v1191 =>
              Ret PR 31 #[v1186, v1191] w1179 fun v1192 w1193 =>
              pO (exO v1192 0) fun v1194 =>
              pO (exO v1192 1) fun v1195 =>
              sv PR (Instr.alloc 48 true (.tuple #[])) w1193 fun v1196 w1197 =>
              stW 2 v1196 v1194 w1197 fun w1198 =>
              lN 2 v1196 w1198 fun v1200 =>
              lN 2 v931 w1198 fun v1201 =>
              Ret PR 32 #[v1200, v1201] w1198 fun v1202 w1203 =>
              pO (exO v1202 0) fun v1204 =>
              pO (exO v1202 1) fun v1205 =>
              pO (arithO .gtr v1204 (.int .i64 0)) fun v1207 =>
              cnd v1207 (
                lN 2 v1196 w1203 fun v1208 =>
                stW 2 v931 v1208 w1203 fun w1209 =>
                K1176 () w1209) (
                K1176 () w1203)))) (
          lN 2 v931 w974 fun v1211 =>
          stW 2 v5 v1211 w974 fun w1212 =>
          lN 2 v5 w1212 fun v1213 =>
          R (.tuple #[v1213, (.int .i64 0)]) w1212))))
def a17 : Ann := (.two .nil (.two (.two .nil (.two (.two .nil .nil) .nil)) (.two (.two .nil (.two (.two .nil .nil) .nil)) (.two .nil (.two (.two .nil (.loop [34, 35, 36, 9, 10, 37, 38, 39, 40, 42, 43, 44, 45, 46, 47, 48, 49, 50, 51, 41, 52, 53, 11, 12, 55, 56, 57, 54, 58, 59, 13, 14, 60, 61, 62, 63, 33] [33] (.two .nil (.two (.two .nil .nil) (.join [35, 36, 9, 10, 37, 38, 39, 40, 42, 43, 44, 45, 46, 47, 48, 49, 50, 51, 41, 52, 53, 11, 12, 55, 56, 57, 54, 58, 59, 13, 14, 60, 61, 62] [] (.two .nil (.two (.two .nil (.two .nil .nil)) (.two .nil (.two .nil (.two .nil (.two .nil .nil)))))) .nil))))) (.two .nil .nil))))))
theorem f17_ret {x0 x1 x2 : Value} {w0 : World} {R : Kv} (h : f17 x0 x1 x2 w0 R) : Ret PR 17 #[x0, x1, x2] w0 R :=
  ret_of_vc (fn := Try.f17) (c := body Try.f17) (x := a17) (args := [x0, x1, x2]) follows Try.func17 (body_eq (by kernel_rfl)) (by kernel_rfl) (Nat.le_of_ble_eq_true (by kernel_rfl))
    (Eq.mp (show f17 x0 x1 x2 w0 R = vcF PR Try.f17.results.toList (body Try.f17) a17 [x0, x1, x2] w0 R by kernel_rfl) h)

/-- slices.Clone[[]string,string] -/
def f20 (x0 : Value) (w0 : World) (R : Kv) : Prop :=
  pO (cmpO false (eqsO x0 (.slice none 0 0))) fun v3 =>
  cnd v3 (
    R (.slice none 0 0) w0) (
    sv PR (Instr.buildSlice 26 0 #[]) w0 fun v6 w7 =>
    sv PR (Builtin.append_ #[26, 26] 26 #[v6, x0]) w7 fun v8 w9 =>
    R v8 w9)
def a20 : Ann := (.two .nil (.two (.two .nil (.two (.two .nil .nil) .nil)) (.two .nil .nil)))
theorem f20_ret {x0 : Value} {w0 : World} {R : Kv} (h : f20 x0 w0 R) : Ret PR 20 #[x0] w0 R :=
  ret_of_vc (fn := Try.f20) (c := body Try.f20) (x := a20) (args := [x0]) follows Try.func20 (body_eq (by kernel_rfl)) (by kernel_rfl) (Nat.le_of_ble_eq_true (by kernel_rfl))
    (Eq.mp (show f20 x0 w0 R = vcF PR Try.f20.results.toList (body Try.f20) a20 [x0] w0 R by kernel_rfl) h)

/-- drover/fib.New -/
def f21 (w0 : World) (R : Kv) : Prop :=
  sv PR (Instr.build 78 #[]) w0 fun v2 w3 =>
  bx 78 v2 w3 fun v4 w5 =>
  R v4 w5
def a21 : Ann := (.two .nil (.two .nil .nil))
theorem f21_ret {w0 : World} {R : Kv} (h : f21 w0 R) : Ret PR 21 #[] w0 R :=
  ret_of_vc (fn := Try.f21) (c := body Try.f21) (x := a21) (args := []) follows Try.func21 (body_eq (by kernel_rfl)) (by kernel_rfl) (Nat.le_of_ble_eq_true (by kernel_rfl))
    (Eq.mp (show f21 w0 R = vcF PR Try.f21.results.toList (body Try.f21) a21 [] w0 R by kernel_rfl) h)

/-- slices.BinarySearch[[]string,string] -/
def f22 (x0 x1 : Value) (w0 : World) (R : Kv) : Prop :=
  pO (lenO x0) fun v2 =>
  loopV (X := Value × Value) ((.int .i64 0), v2) w0 (fun K498 x497 w26 => ∀ _ : Env,
    pO (arithO .lss x497.1 x497.2) fun v501 =>
    cnd v501 (
      pO (arithO .add x497.1 x497.2) fun v503 =>
      pO (cviO .u64 v503) fun v504 =>
      pO (arithO .shr v504 (.int .u64 1)) fun v505 =>
      pO (cviO .i64 v505) fun v506 =>
      pO (ixsO 1 x0 v506) fun v508 =>
      l1 v508 w26 fun v509 =>
      Ret PR 35 #[v509, x1] w26 fun v510 w511 =>
      cnd v510 (
        pO (arithO .add v506 (.int .i64 1)) fun v512 =>
        K498 (v512, x497.2) w511) (
        K498 (x497.1, v506) w511)) (
      pO (arithO .lss x497.1 v2) fun v514 =>
      gB (X := Value) v514 true undef (fun K730 =>
        pO (ixsO 1 x0 x497.1) fun v731 =>
        l1 v731 w26 fun v732 =>
        pO (cmpO false (eqlO v732 x1)) fun v733 =>
        K730 v733 w26) w26 fun x626 w522 =>
      gB (X := Value) x626 false undef (fun K725 =>
        pO (ixsO 1 x0 x497.1) fun v726 =>
        l1 v726 w522 fun v727 =>
        Ret PR 36 #[v727] w522 fun v728 w729 =>
        K725 v728 w729) w522 fun x679 w633 =>
      gB (X := Value) x679 true undef (fun K722 =>
        Ret PR 36 #[x1] w633 fun v723 w724 =>
        K722 v723 w724) w633 fun x702 w682 =>
      gB (X := Value) x626 false undef (fun K720 =>
        pO (pkO x679 x702 (.bool false)) fun v721 =>
        K720 v721 w682) w682 fun x712 w704 =>
      gB (X := Value) v514 true undef (fun K718 =>
        pO (pkO x626 (.bool true) x712) fun v719 =>
        K718 v719 w704) w704 fun x716 w714 =>
      pO (pkO v514 x716 (.bool false)) fun v717 =>
      R (.tuple #[x497.1, v717]) w714))
def a22 : Ann := (.two .nil (.two .nil (.two .nil (.two (.loop [13, 14, 15, 16, 17, 18, 19, 20, 21, 9, 22, 23, 24, 25, 26, 27, 28, 29, 7, 30, 8] [7, 8] (.two (.two .nil (.two .nil .nil)) (.two .nil (.two .nil (.two .nil .nil))))) (.two .nil .nil)))))
theorem f22_ret {x0 x1 : Value} {w0 : World} {R : Kv} (h : f22 x0 x1 w0 R) : Ret PR 22 #[x0, x1] w0 R :=
  ret_of_vc (fn := Try.f22) (c := body Try.f22) (x := a22) (args := [x0, x1]) follows Try.func22 (body_eq (by kernel_rfl)) (by kernel_rfl) (Nat.le_of_ble_eq_true (by kernel_rfl))
    (Eq.mp (show f22 x0 x1 w0 R = vcF PR Try.f22.results.toList (body Try.f22) a22 [x0, x1] w0 R by kernel_rfl) h)

/-- (*drover/fib.Heap).Insert -/
def f23 (x0 x1 : Value) (w0 : World) (R : Kv) : Prop :=
  bx 60 x1 w0 fun v1 w2 =>
  pO (cmpO false (eqpO x0 (.pointer none))) fun v5 =>
  cnd v5 (
    R (.tuple #[(.int .i64 0), (.int .i64 10)]) w2) (
    pO (faO 0 v1) fun v8 =>
    pO (faO 1 v8) fun v9 =>
    l1 v9 w2 fun v10 =>
    pO (cmpO false (eqlO v10 (.int .u64 0))) fun v11 =>
    cnd v11 (
      R (.tuple #[(.int .i64 0), (.int .i64 4)]) w2) (
      pO (ncO x0) fun v14 =>
      pO (faO 0 v14) fun v15 =>
      l1 v15 w2 fun v16 =>
      pO (lenO v16) fun v17 =>
      pO (arithO .geq v17 (.int .i64 1048576)) fun v18 =>
      cnd v18 (
        R (.tuple #[(.int .i64 0), (.int .i64 6)]) w2) (
        pO (ncO x0) fun v21 =>
        pO (faO 0 v21) fun v22 =>
        l1 v22 w2 fun v23 =>
        pO (lenO v23) fun v24 =>
        ∃ C26 : World → Prop, C26 w2.drew ∧
        pO (ncO x0) fun v27 =>
        pO (faO 0 v27) fun v28 =>
        l1C C26 v28 fun v29 =>
        lNC C26 3 v1 fun v30 =>
        sv PR (Instr.build 82 #[(0, v30), (1, (.int .i64 (-1))), (2, (.int .i64 (-1))), (7, (.bool true))]) w2.drew fun v31 w32 =>
        C26 w32 ∧
        sv PR (Instr.buildSlice 76 1 #[(0, v31)]) w32 fun v33 w34 =>
        C26 w34 ∧
        sv PR (Builtin.append_ #[76, 76] 76 #[v29, v33]) w34 fun v35 w36 =>
        pO (ncO x0) fun v37 =>
        pO (faO 0 v37) fun v38 =>
        stW 1 v38 v35 w36 fun w39 =>
        Ret PR 37 #[x0, v24] w39 fun v41 w42 =>
        pO (ncO x0) fun v44 =>
        pO (faO 2 v44) fun v45 =>
        l1 v45 w42 fun v46 =>
        pO (arithO .add v46 (.int .i64 1)) fun v47 =>
        pO (ncO x0) fun v48 =>
        pO (faO 2 v48) fun v49 =>
        stW 1 v49 v47 w42 fun w50 =>
        R (.tuple #[v24, (.int .i64 0)]) w50)))
def a23 : Ann := (.two .nil (.two (.two .nil (.two (.two .nil .nil) (.two .nil (.two (.two .nil .nil) (.two .nil (.two (.two .nil .nil) .nil)))))) (.two .nil (.two (.planB [(0, .pure), (1, .pure), (2, .pure), (3, .pure), (4, .load), (5, .load), (6, .hardF), (7, .hardF), (8, .hard), (9, .pure), (10, .pure), (11, .hard)]) (.two .nil (.two .nil (.two .nil .nil)))))))
theorem f23_ret {x0 x1 : Value} {w0 : World} {R : Kv} (h : f23 x0 x1 w0 R) : Ret PR 23 #[x0, x1] w0 R :=
  ret_of_vc (fn := Try.f23) (c := body Try.f23) (x := a23) (args := [x0, x1]) follows Try.func23 (body_eq (by kernel_rfl)) (by kernel_rfl) (Nat.le_of_ble_eq_true (by kernel_rfl))
    (Eq.mp (show f23 x0 x1 w0 R = vcF PR Try.f23.results.toList (body Try.f23) a23 [x0, x1] w0 R by kernel_rfl) h)

/-- (*drover/fib.Heap).Len -/
def f24 (x0 : Value) (w0 : World) (R : Kv) : Prop :=
  pO (cmpO false (eqpO x0 (.pointer none))) fun v3 =>
  cnd v3 (
    R (.int .i64 0) w0) (
    pO (ncO x0) fun v6 =>
    pO (faO 2 v6) fun v7 =>
    l1 v7 w0 fun v8 =>
    R v8 w0)
def a24 : Ann := (.two .nil (.two (.two .nil (.two (.two .nil .nil) .nil)) (.two .nil .nil)))
theorem f24_ret {x0 : Value} {w0 : World} {R : Kv} (h : f24 x0 w0 R) : Ret PR 24 #[x0] w0 R :=
  ret_of_vc (fn := Try.f24) (c := body Try.f24) (x := a24) (args := [x0]) follows Try.func24 (body_eq (by kernel_rfl)) (by kernel_rfl) (Nat.le_of_ble_eq_true (by kernel_rfl))
    (Eq.mp (show f24 x0 w0 R = vcF PR Try.f24.results.toList (body Try.f24) a24 [x0] w0 R by kernel_rfl) h)

/-- (*drover/fib.Heap).Pop -/
def f25 (x0 : Value) (w0 : World) (R : Kv) : Prop :=
  sv PR (Instr.alloc 60 true (.tuple #[])) w0 fun v1 w2 =>
  Ret PR 38 #[x0] w2 fun v4 w5 =>
  pO (exO v4 0) fun v6 =>
  pO (exO v4 1) fun v7 =>
  pO (exO v4 2) fun v8 =>
  sv PR (Instr.alloc 60 true (.tuple #[])) w5 fun v9 w10 =>
  stW 3 v9 v7 w10 fun w11 =>
  pO (cmpO true (eqlO v8 (.int .i64 0))) fun v14 =>
  cnd v14 (
    lN 3 v9 w11.drew fun v16 =>
    stW 3 v1 v16 w11.drew fun w17 =>
    lN 3 v1 w17 fun v18 =>
    R (.tuple #[v6, v18, v8]) w17) (
    Ret PR 39 #[x0, v6] w11 fun v22 w23 =>
    pO (lenO v22) fun v24 =>
    loopV (X := Value × Value) ((.slice none 0 0), (.int .i64 0)) w23 (fun K255 x254 w39 => ∀ _ : Env,
      pO (arithO .lss x254.2 v24) fun v257 =>
      cnd v257 (
        join (X := Value) (fun x272 w270 => ∀ _ : Env,
          pO (arithO .add x254.2 (.int .i64 1)) fun v273 =>
          K255 (x272, v273) w270)
        (fun K274 =>
          pO (ixsO 1 v22 x254.2) fun v276 =>
          l1 v276 w39 fun v277 =>
          pO (cmpO true (eqlO v277 v6)) fun v279 =>
          cnd v279 (
            sv PR (Instr.buildSlice 84 1 #[(0, v277)]) w39 fun v280 w281 =>
            sv PR (Builtin.append_ #[84, 84] 84 #[x254.1, v280]) w281 fun v282 w283 =>
            K274 v282 w283) (
            K274 x254.1 w39))) (
        join (X := Value) (fun x325 w301 => ∀ _ : Env,
          pO (ncO x0) fun v327 =>
          pO (faO 0 v327) fun v328 =>
          l1 v328 w301 fun v329 =>
          sv PR (Instr.build 82 #[]) w301 fun v330 w331 =>
          pO (ixsO 10 v329 v6) fun v332 =>
          stW 10 v332 v330 w331 fun w333 =>
          pO (ncO x0) fun v335 =>
          pO (faO 2 v335) fun v336 =>
          l1 v336 w333 fun v337 =>
          pO (arithO .sub v337 (.int .i64 1)) fun v338 =>
          pO (ncO x0) fun v339 =>
          pO (faO 2 v339) fun v340 =>
          stW 1 v340 v338 w333 fun w341 =>
          Ret PR 40 #[x0, x325] w341 fun v343 w344 =>
          lN 3 v9 w344.drew fun v346 =>
          stW 3 v1 v346 w344.drew fun w347 =>
          lN 3 v1 w347 fun v348 =>
          R (.tuple #[v6, v348, (.int .i64 0)]) w347)
        (fun K349 =>
          pO (ncO x0) fun v351 =>
          pO (faO 0 v351) fun v352 =>
          l1 v352 w39 fun v353 =>
          pO (ixsO 10 v353 v6) fun v354 =>
          pO (faO 4 v354) fun v355 =>
          l1 v355 w39 fun v356 =>
          pO (cmpO true (eqlO v356 (.int .i64 (-1)))) fun v358 =>
          cnd v358 (
            Ret PR 39 #[x0, v356] w39 fun v359 w360 =>
            sv PR (Builtin.append_ #[84, 84] 84 #[x254.1, v359]) w360 fun v361 w362 =>
            K349 v361 w362) (
            K349 x254.1 w39)))))
def a25 : Ann := (.two .nil (.two .nil (.two (.two .nil (.two (.two (.planA [(0, .pure), (2, .pure), (3, .pure), (1, .load), (4, .hard), (5, .pure)]) .nil) .nil)) (.two .nil (.two (.two .nil (.loop [28, 29, 30, 10, 31, 32, 33, 34, 35, 36, 37, 8, 38, 27] [8, 27] (.two .nil (.two (.two .nil .nil) (.join [29, 30, 10, 31, 32, 33, 34, 35, 36, 37, 8] [8] (.two .nil (.two .nil (.two .nil .nil))) .nil))))) (.join [39, 40, 41, 42, 43, 44, 45, 46, 11, 47, 48, 49, 50, 51, 52, 53, 8] [8] (.two .nil (.two .nil (.two .nil .nil))) (.two .nil (.two .nil (.two .nil (.two (.planA [(0, .pure), (2, .pure), (1, .load), (3, .hard), (4, .pure)]) .nil))))))))))
theorem f25_ret {x0 : Value} {w0 : World} {R : Kv} (h : f25 x0 w0 R) : Ret PR 25 #[x0] w0 R :=
  ret_of_vc (fn := Try.f25) (c := body Try.f25) (x := a25) (args := [x0]) follows Try.func25 (body_eq (by kernel_rfl)) (by kernel_rfl) (Nat.le_of_ble_eq_true (by kernel_rfl))
    (Eq.mp (show f25 x0 w0 R = vcF PR Try.f25.results.toList (body Try.f25) a25 [x0] w0 R by kernel_rfl) h)

/-- drover/droverref03.Share -/
def f26 (x0 x1 x2 : Value) (w0 : World) (R : Kv) : Prop :=
  bx 23 x0 w0 fun v1 w2 =>
  bx 23 x1 w2 fun v3 w4 =>
  sv PR (Instr.alloc 64 true (.tuple #[])) w4 fun v5 w6 =>
  lN 4 v1 w6 fun v9 =>
  Ret PR 28 #[v9] w6 fun v10 w11 =>
  pO (unO .not v10) fun v12 =>
  gB (X := Value) v12 false undef (fun K884 =>
    lN 4 v3 w11 fun v885 =>
    Ret PR 28 #[v885] w11 fun v886 w887 =>
    pO (unO .not v886) fun v888 =>
    K884 v888 w887) w11 fun x450 w16 =>
  pO (pkO v12 (.bool true) x450) fun v451 =>
  cnd v451 (
    sv PR (Instr.build 64 #[]) w16 fun v453 w454 =>
    stW 2 v5 v453 w454 fun w455 =>
    lN 2 v5 w455 fun v456 =>
    R (.tuple #[v456, (.int .i64 4)]) w455) (
    pO (arithO .lss x2 (.int .i64 1)) fun v459 =>
    gB (X := Value) v459 false undef (fun K882 =>
      pO (arithO .gtr x2 (.int .i64 1000)) fun v883 =>
      K882 v883 w16) w16 fun x672 w462 =>
    pO (pkO v459 (.bool true) x672) fun v673 =>
    cnd v673 (
      sv PR (Instr.build 64 #[]) w462 fun v675 w676 =>
      stW 2 v5 v675 w676 fun w677 =>
      lN 2 v5 w677 fun v678 =>
      R (.tuple #[v678, (.int .i64 2)]) w677) (
      loopV (X := Value × Value × Value) ((.int .i64 0), (.int .i64 1), (.int .i64 0)) w462 (fun K824 x823 w708 => ∀ _ : Env,
        pO (arithO .lss x823.2.2 (.int .i64 4)) fun v827 =>
        cnd v827 (
          join (X := Value × Value) (fun x851 w849 => ∀ _ : Env,
            pO (arithO .add x823.2.2 (.int .i64 1)) fun v852 =>
            K824 (x851.1, x851.2, v852) w849)
          (fun K853 =>
            pO (ixaO 4 1 v3 x823.2.2) fun v856 =>
            l1 v856 w708 fun v857 =>
            pO (cmpO false (eqlO v857 (.int .i64 0))) fun v858 =>
            cnd v858 (
              K853 (x823.1, x823.2.1) w708) (
              pO (ixaO 4 1 v1 x823.2.2) fun v860 =>
              pO (ixaO 4 1 v3 x823.2.2) fun v861 =>
              l1 v860 w708.drew fun v862 =>
              l1 v861 w708.drew fun v863 =>
              Ret PR 41 #[v862, x823.2.1, x823.1, v863] w708.drew fun v864 w865 =>
              cnd v864 (
                pO (ixaO 4 1 v1 x823.2.2) fun v867 =>
                l1 v867 w865 fun v868 =>
                pO (ixaO 4 1 v3 x823.2.2) fun v869 =>
                l1 v869 w865 fun v870 =>
                K853 (v868, v870) w865) (
                K853 (x823.1, x823.2.1) w865)))) (
          pO (cviO .u64 x823.1) fun v872 =>
          pO (cviO .u64 x823.2.1) fun v873 =>
          pO (cviO .u64 x2) fun v874 =>
          pO (arithO .mul v873 v874) fun v875 =>
          Ret PR 42 #[v872, v875] w708 fun v876 w877 =>
          pO (exO v876 0) fun v878 =>
          pO (exO v876 1) fun v879 =>
          stW 2 v5 v878 w877 fun w880 =>
          lN 2 v5 w880 fun v881 =>
          R (.tuple #[v881, v879]) w880))))
def a26 : Ann := (.two .nil (.two (.two .nil (.two (.two .nil .nil) .nil)) (.two (.two .nil (.two (.two .nil .nil) .nil)) (.two .nil (.two (.two .nil (.loop [27, 28, 31, 32, 33, 34, 35, 36, 37, 38, 39, 40, 41, 42, 43, 44, 45, 46, 8, 47, 48, 49, 9, 29, 30, 10] [8, 9, 10] (.two (.two .nil (.two .nil .nil)) (.join [31, 32, 33, 34, 35, 36, 37, 38, 39, 40, 41, 42, 43, 44, 45, 46, 8, 47, 48, 49, 9] [8, 9] (.two (.two .nil (.two .nil .nil)) (.two (.planA [(0, .pure), (1, .pure), (3, .pure), (4, .pure), (5, .pure), (6, .pure), (2, .load), (7, .load), (8, .hard)]) (.two (.two .nil .nil) .nil))) .nil)))) (.two .nil .nil))))))
theorem f26_ret {x0 x1 x2 : Value} {w0 : World} {R : Kv} (h : f26 x0 x1 x2 w0 R) : Ret PR 26 #[x0, x1, x2] w0 R :=
  ret_of_vc (fn := Try.f26) (c := body Try.f26) (x := a26) (args := [x0, x1, x2]) follows Try.func26 (body_eq (by kernel_rfl)) (by kernel_rfl) (Nat.le_of_ble_eq_true (by kernel_rfl))
    (Eq.mp (show f26 x0 x1 x2 w0 R = vcF PR Try.f26.results.toList (body Try.f26) a26 [x0, x1, x2] w0 R by kernel_rfl) h)

/-- drover/droverref15.before -/
def f27 (x0 x1 x2 : Value) (w0 : World) (R : Kv) : Prop :=
  bx 23 x0 w0 fun v1 w2 =>
  bx 67 x1 w2 fun v3 w4 =>
  bx 67 x2 w4 fun v5 w6 =>
  pO (faO 2 v3) fun v8 =>
  lN 4 v8 w6 fun v9 =>
  lN 4 v1 w6 fun v10 =>
  pO (faO 1 v3) fun v11 =>
  l1 v11 w6 fun v12 =>
  Ret PR 26 #[v9, v10, v12] w6 fun v13 w14 =>
  pO (exO v13 0) fun v15 =>
  pO (exO v13 1) fun v16 =>
  sv PR (Instr.alloc 64 true (.tuple #[])) w14 fun v17 w18 =>
  stW 2 v17 v15 w18 fun w19 =>
  pO (faO 2 v5) fun v21 =>
  lN 4 v21 w19 fun v22 =>
  lN 4 v1 w19 fun v23 =>
  pO (faO 1 v5) fun v24 =>
  l1 v24 w19 fun v25 =>
  Ret PR 26 #[v22, v23, v25] w19 fun v26 w27 =>
  pO (exO v26 0) fun v28 =>
  pO (exO v26 1) fun v29 =>
  sv PR (Instr.alloc 64 true (.tuple #[])) w27 fun v30 w31 =>
  stW 2 v30 v28 w31 fun w32 =>
  lN 2 v17 w32 fun v34 =>
  lN 2 v30 w32 fun v35 =>
  Ret PR 43 #[v34, v35] w32 fun v36 w37 =>
  pO (exO v36 0) fun v38 =>
  pO (exO v36 1) fun v39 =>
  pO (arithO .lss v38 (.int .i64 0)) fun v41 =>
  gB (X := Value) v41 false undef (fun K101 =>
    pO (cmpO false (eqlO v38 (.int .i64 0))) fun v102 =>
    K101 v102 w37) w37 fun x73 w45 =>
  gB (X := Value) x73 true undef (fun K95 =>
    pO (faO 0 v3) fun v96 =>
    l1 v96 w45 fun v97 =>
    pO (faO 0 v5) fun v98 =>
    l1 v98 w45 fun v99 =>
    pO (arithO .lss v97 v99) fun v100 =>
    K95 v100 w45) w45 fun x87 w79 =>
  gB (X := Value) v41 false undef (fun K93 =>
    pO (pkO x73 x87 (.bool false)) fun v94 =>
    K93 v94 w79) w79 fun x91 w89 =>
  pO (pkO v41 (.bool true) x91) fun v92 =>
  R v92 w89
def a27 : Ann := (.two .nil (.two .nil (.two .nil (.two .nil (.two .nil .nil)))))
theorem f27_ret {x0 x1 x2 : Value} {w0 : World} {R : Kv} (h : f27 x0 x1 x2 w0 R) : Ret PR 27 #[x0, x1, x2] w0 R :=
  ret_of_vc (fn := Try.f27) (c := body Try.f27) (x := a27) (args := [x0, x1, x2]) follows Try.func27 (body_eq (by kernel_rfl)) (by kernel_rfl) (Nat.le_of_ble_eq_true (by kernel_rfl))
    (Eq.mp (show f27 x0 x1 x2 w0 R = vcF PR Try.f27.results.toList (body Try.f27) a27 [x0, x1, x2] w0 R by kernel_rfl) h)

/-- drover/droverref03.Formed -/
def f28 (x0 : Value) (w0 : World) (R : Kv) : Prop :=
  bx 23 x0 w0 fun v1 w2 =>
  loopV (X := Value) (.int .i64 0) w2 (fun K73 x72 w21 => ∀ _ : Env,
    pO (arithO .lss x72 (.int .i64 4)) fun v76 =>
    cnd v76 (
      pO (ixaO 4 1 v1 x72) fun v79 =>
      l1 v79 w21 fun v80 =>
      pO (arithO .lss v80 (.int .i64 0)) fun v81 =>
      gB (X := Value) v81 false undef (fun K94 =>
        pO (ixaO 4 1 v1 x72) fun v95 =>
        l1 v95 w21 fun v96 =>
        pO (arithO .gtr v96 (.int .i64 1099511627776)) fun v97 =>
        K94 v97 w21) w21 fun x90 w86 =>
      pO (pkO v81 (.bool true) x90) fun v91 =>
      cnd v91 (
        R (.bool false) w86) (
        pO (arithO .add x72 (.int .i64 1)) fun v93 =>
        K73 v93 w86)) (
      R (.bool true) w21))
def a28 : Ann := (.two .nil (.two (.two .nil (.loop [4, 5, 8, 9, 10, 11, 12, 13, 14, 15, 16, 17, 2, 6, 7, 3] [3] (.two (.two .nil (.two .nil .nil)) (.two (.two .nil (.two (.two .nil .nil) .nil)) .nil)))) (.two .nil .nil)))
theorem f28_ret {x0 : Value} {w0 : World} {R : Kv} (h : f28 x0 w0 R) : Ret PR 28 #[x0] w0 R :=
  ret_of_vc (fn := Try.f28) (c := body Try.f28) (x := a28) (args := [x0]) follows Try.func28 (body_eq (by kernel_rfl)) (by kernel_rfl) (Nat.le_of_ble_eq_true (by kernel_rfl))
    (Eq.mp (show f28 x0 w0 R = vcF PR Try.f28.results.toList (body Try.f28) a28 [x0] w0 R by kernel_rfl) h)

/-- slices.Contains[[]string,string] -/
def f29 (x0 x1 : Value) (w0 : World) (R : Kv) : Prop :=
  Ret PR 44 #[x0, x1] w0 fun v2 w3 =>
  pO (arithO .geq v2 (.int .i64 0)) fun v4 =>
  R v4 w3
def a29 : Ann := (.two .nil (.two .nil .nil))
theorem f29_ret {x0 x1 : Value} {w0 : World} {R : Kv} (h : f29 x0 x1 w0 R) : Ret PR 29 #[x0, x1] w0 R :=
  ret_of_vc (fn := Try.f29) (c := body Try.f29) (x := a29) (args := [x0, x1]) follows Try.func29 (body_eq (by kernel_rfl)) (by kernel_rfl) (Nat.le_of_ble_eq_true (by kernel_rfl))
    (Eq.mp (show f29 x0 x1 w0 R = vcF PR Try.f29.results.toList (body Try.f29) a29 [x0, x1] w0 R by kernel_rfl) h)

/-- drover/vector.Formed -/
def f30 (x0 : Value) (w0 : World) (R : Kv) : Prop :=
  bx 23 x0 w0 fun v1 w2 =>
  lN 4 v1 w2 fun v5 =>
  loopV (X := Value) (.int .i64 0) w2 (fun K64 x63 w18 => ∀ _ : Env,
    pO (arithO .lss x63 (.int .i64 4)) fun v66 =>
    cnd v66 (
      sv PR (Instr.index 23 v5 x63) w18 fun v70 w71 =>
      pO (arithO .lss v70 (.int .i64 0)) fun v73 =>
      gB (X := Value) v73 false undef (fun K84 =>
        pO (arithO .gtr v70 (.int .i64 1099511627776)) fun v85 =>
        K84 v85 w71) w71 fun x80 w76 =>
      pO (pkO v73 (.bool true) x80) fun v81 =>
      cnd v81 (
        R (.bool false) w76) (
        pO (arithO .add x63 (.int .i64 1)) fun v83 =>
        K64 v83 w76)) (
      R (.bool true) w18))
def a30 : Ann := (.two .nil (.two (.two .nil (.loop [7, 8, 4, 9, 10, 11, 12, 13, 14, 2, 15, 6] [6] (.two .nil (.two (.two .nil .nil) (.two (.two .nil (.two .nil (.two (.two .nil .nil) .nil))) .nil))))) (.two .nil .nil)))
theorem f30_ret {x0 : Value} {w0 : World} {R : Kv} (h : f30 x0 w0 R) : Ret PR 30 #[x0] w0 R :=
  ret_of_vc (fn := Try.f30) (c := body Try.f30) (x := a30) (args := [x0]) follows Try.func30 (body_eq (by kernel_rfl)) (by kernel_rfl) (Nat.le_of_ble_eq_true (by kernel_rfl))
    (Eq.mp (show f30 x0 w0 R = vcF PR Try.f30.results.toList (body Try.f30) a30 [x0] w0 R by kernel_rfl) h)

/-- drover/ratio.New -/
def f31 (x0 x1 : Value) (w0 : World) (R : Kv) : Prop :=
  sv PR (Instr.alloc 48 true (.tuple #[])) w0 fun v1 w2 =>
  pO (cmpO false (eqlO x1 (.int .u64 0))) fun v5 =>
  cnd v5 (
    sv PR (Instr.build 48 #[]) w2 fun v7 w8 =>
    stW 2 v1 v7 w8 fun w9 =>
    lN 2 v1 w9 fun v10 =>
    R (.tuple #[v10, (.int .i64 2)]) w9) (
    Ret PR 45 #[x0, x1] w2 fun v12 w13 =>
    stW 2 v1 v12 w13 fun w14 =>
    lN 2 v1 w14 fun v15 =>
    R (.tuple #[v15, (.int .i64 0)]) w14)
def a31 : Ann := (.two .nil (.two (.two .nil (.two (.two .nil .nil) .nil)) (.two .nil .nil)))
theorem f31_ret {x0 x1 : Value} {w0 : World} {R : Kv} (h : f31 x0 x1 w0 R) : Ret PR 31 #[x0, x1] w0 R :=
  ret_of_vc (fn := Try.f31) (c := body Try.f31) (x := a31) (args := [x0, x1]) follows Try.func31 (body_eq (by kernel_rfl)) (by kernel_rfl) (Nat.le_of_ble_eq_true (by kernel_rfl))
    (Eq.mp (show f31 x0 x1 w0 R = vcF PR Try.f31.results.toList (body Try.f31) a31 [x0, x1] w0 R by kernel_rfl) h)

/-- drover/ratio.Cmp -/
def f32 (x0 x1 : Value) (w0 : World) (R : Kv) : Prop :=
  bx 48 x0 w0 fun v1 w2 =>
  bx 48 x1 w2 fun v3 w4 =>
  pO (faO 1 v1) fun v7 =>
  l1 v7 w4 fun v8 =>
  pO (cmpO false (eqlO v8 (.int .u64 0))) fun v9 =>
  gB (X := Value) v9 false undef (fun K73 =>
    pO (faO 1 v3) fun v74 =>
    l1 v74 w4 fun v75 =>
    pO (cmpO false (eqlO v75 (.int .u64 0))) fun v76 =>
    K73 v76 w4) w4 fun x43 w13 =>
  pO (pkO v9 (.bool true) x43) fun v44 =>
  cnd v44 (
    R (.tuple #[(.int .i64 0), (.int .i64 4)]) w13) (
    pO (faO 0 v1) fun v47 =>
    l1 v47 w13 fun v48 =>
    pO (faO 1 v3) fun v49 =>
    l1 v49 w13 fun v50 =>
    Ret PR 46 #[v48, v50] w13 fun v51 w52 =>
    pO (exO v51 0) fun v53 =>
    pO (exO v51 1) fun v54 =>
    pO (faO 0 v3) fun v56 =>
    l1 v56 w52 fun v57 =>
    pO (faO 1 v1) fun v58 =>
    l1 v58 w52 fun v59 =>
    Ret PR 46 #[v57, v59] w52 fun v60 w61 =>
    pO (exO v60 0) fun v62 =>
    pO (exO v60 1) fun v63 =>
    Ret PR 48 #[v53, v62] w61 fun v65 w66 =>
    Ret PR 48 #[v54, v63] w66 fun v67 w68 =>
    sv PR (Instr.buildSlice 84 2 #[(0, v65), (1, v67)]) w68 fun v69 w70 =>
    Ret PR 47 #[v69] w70 fun v71 w72 =>
    R (.tuple #[v71, (.int .i64 0)]) w72)
def a32 : Ann := (.two .nil (.two (.two .nil (.two (.two .nil .nil) .nil)) (.two .nil (.two .nil (.two .nil .nil)))))
theorem f32_ret {x0 x1 : Value} {w0 : World} {R : Kv} (h : f32 x0 x1 w0 R) : Ret PR 32 #[x0, x1] w0 R :=
  ret_of_vc (fn := Try.f32) (c := body Try.f32) (x := a32) (args := [x0, x1]) follows Try.func32 (body_eq (by kernel_rfl)) (by kernel_rfl) (Nat.le_of_ble_eq_true (by kernel_rfl))
    (Eq.mp (show f32 x0 x1 w0 R = vcF PR Try.f32.results.toList (body Try.f32) a32 [x0, x1] w0 R by kernel_rfl) h)

/-- math/bits.Len -/
def f34 (x0 : Value) (w0 : World) (R : Kv) : Prop :=
  cnd (.bool false) (
    pO (cviO .u32 x0) fun v3 =>
    Ret PR 57 #[v3] w0 fun v4 w5 =>
    R v4 w5) (
    Ret PR 58 #[x0] w0 fun v7 w8 =>
    R v7 w8)
def a34 : Ann := (.two .nil (.two (.two (.two .nil .nil) .nil) (.two .nil .nil)))
theorem f34_ret {x0 : Value} {w0 : World} {R : Kv} (h : f34 x0 w0 R) : Ret PR 34 #[x0] w0 R :=
  ret_of_vc (fn := Try.f34) (c := body Try.f34) (x := a34) (args := [x0]) follows Try.func34 (body_eq (by kernel_rfl)) (by kernel_rfl) (Nat.le_of_ble_eq_true (by kernel_rfl))
    (Eq.mp (show f34 x0 w0 R = vcF PR Try.f34.results.toList (body Try.f34) a34 [x0] w0 R by kernel_rfl) h)

/-- cmp.Less[string] -/
def f35 (x0 x1 : Value) (w0 : World) (R : Kv) : Prop :=
  Ret PR 59 #[x0] w0 fun v2 w3 =>
  gB (X := Value) v2 true undef (fun K29 =>
    Ret PR 59 #[x1] w3 fun v30 w31 =>
    pO (unO .not v30) fun v32 =>
    K29 v32 w31) w3 fun x18 w7 =>
  pO (pkO v2 x18 (.bool false)) fun v19 =>
  gB (X := Value) v19 false undef (fun K27 =>
    pO (arithO .lss x0 x1) fun v28 =>
    K27 v28 w7) w7 fun x25 w23 =>
  pO (pkO v19 (.bool true) x25) fun v26 =>
  R v26 w23
def a35 : Ann := (.two .nil (.two .nil .nil))
theorem f35_ret {x0 x1 : Value} {w0 : World} {R : Kv} (h : f35 x0 x1 w0 R) : Ret PR 35 #[x0, x1] w0 R :=
  ret_of_vc (fn := Try.f35) (c := body Try.f35) (x := a35) (args := [x0, x1]) follows Try.func35 (body_eq (by kernel_rfl)) (by kernel_rfl) (Nat.le_of_ble_eq_true (by kernel_rfl))
    (Eq.mp (show f35 x0 x1 w0 R = vcF PR Try.f35.results.toList (body Try.f35) a35 [x0, x1] w0 R by kernel_rfl) h)

/-- slices.isNaN[string] -/
def f36 (x0 : Value) (w0 : World) (R : Kv) : Prop :=
  pO (cmpO true (eqlO x0 x0)) fun v2 =>
  R v2 w0
def a36 : Ann := (.two .nil (.two .nil .nil))
theorem f36_ret {x0 : Value} {w0 : World} {R : Kv} (h : f36 x0 w0 R) : Ret PR 36 #[x0] w0 R :=
  ret_of_vc (fn := Try.f36) (c := body Try.f36) (x := a36) (args := [x0]) follows Try.func36 (body_eq (by kernel_rfl)) (by kernel_rfl) (Nat.le_of_ble_eq_true (by kernel_rfl))
    (Eq.mp (show f36 x0 w0 R = vcF PR Try.f36.results.toList (body Try.f36) a36 [x0] w0 R by kernel_rfl) h)

/-- (*drover/fib.Heap).root -/
def f37 (x0 x1 : Value) (w0 : World) (R : Kv) : Prop :=
  pO (ncO x0) fun v1 =>
  pO (faO 0 v1) fun v2 =>
  l1 v2 w0 fun v3 =>
  pO (ixsO 10 v3 x1) fun v4 =>
  pO (faO 3 v4) fun v5 =>
  stW 1 v5 (.int .i64 (-1)) w0 fun w6 =>
  pO (ncO x0) fun v8 =>
  pO (faO 0 v8) fun v9 =>
  l1 v9 w6 fun v10 =>
  pO (ixsO 10 v10 x1) fun v11 =>
  pO (faO 8 v11) fun v12 =>
  stW 1 v12 (.bool false) w6 fun w13 =>
  pO (ncO x0) fun v16 =>
  pO (faO 1 v16) fun v17 =>
  l1 v17 w13 fun v18 =>
  pO (cmpO false (eqlO v18 (.int .i64 0))) fun v19 =>
  cnd v19 (
    pO (ncO x0) fun v21 =>
    pO (faO 0 v21) fun v22 =>
    pO (ncO x0) fun v23 =>
    pO (faO 0 v23) fun v24 =>
    l1 v22 w13.drew fun v25 =>
    l1 v24 w13.drew fun v26 =>
    pO (ixsO 10 v25 x1) fun v27 =>
    pO (faO 5 v27) fun v28 =>
    stW 1 v28 x1 w13.drew fun w29 =>
    pO (ixsO 10 v26 x1) fun v30 =>
    pO (faO 6 v30) fun v31 =>
    stW 1 v31 x1 w29 fun w32 =>
    pO (arithO .add x1 (.int .i64 1)) fun v34 =>
    pO (ncO x0) fun v35 =>
    pO (faO 1 v35) fun v36 =>
    stW 1 v36 v34 w32 fun w37 =>
    R (.tuple #[]) w37) (
    pO (ncO x0) fun v39 =>
    pO (faO 1 v39) fun v40 =>
    l1 v40 w13 fun v41 =>
    pO (arithO .sub v41 (.int .i64 1)) fun v42 =>
    Ret PR 60 #[x0, x1, v42] w13 fun v43 w44 =>
    pO (ncO x0) fun v46 =>
    pO (faO 1 v46) fun v47 =>
    l1 v47 w44 fun v48 =>
    pO (arithO .sub v48 (.int .i64 1)) fun v49 =>
    Ret PR 61 #[x0, x1, v49] w44 fun v50 w51 =>
    cnd v50 (
      pO (arithO .add x1 (.int .i64 1)) fun v52 =>
      pO (ncO x0) fun v53 =>
      pO (faO 1 v53) fun v54 =>
      stW 1 v54 v52 w51 fun w55 =>
      R (.tuple #[]) w55) (
      R (.tuple #[]) w51))
def a37 : Ann := (.two .nil (.two .nil (.two (.two .nil (.two (.two (.planA [(0, .pure), (1, .pure), (2, .pure), (4, .pure), (5, .pure), (6, .pure), (7, .pure), (9, .pure), (10, .pure), (11, .pure), (3, .load), (8, .load), (12, .pure), (13, .pure), (14, .hard), (15, .pure), (16, .pure), (17, .hard)]) (.two .nil .nil)) .nil)) (.two .nil (.two .nil (.two .nil .nil))))))
theorem f37_ret {x0 x1 : Value} {w0 : World} {R : Kv} (h : f37 x0 x1 w0 R) : Ret PR 37 #[x0, x1] w0 R :=
  ret_of_vc (fn := Try.f37) (c := body Try.f37) (x := a37) (args := [x0, x1]) follows Try.func37 (body_eq (by kernel_rfl)) (by kernel_rfl) (Nat.le_of_ble_eq_true (by kernel_rfl))
    (Eq.mp (show f37 x0 x1 w0 R = vcF PR Try.f37.results.toList (body Try.f37) a37 [x0, x1] w0 R by kernel_rfl) h)

/-- (*drover/fib.Heap).Min -/
def f38 (x0 : Value) (w0 : World) (R : Kv) : Prop :=
  sv PR (Instr.alloc 60 true (.tuple #[])) w0 fun v1 w2 =>
  Ret PR 24 #[x0] w2 fun v5 w6 =>
  pO (cmpO false (eqlO v5 (.int .i64 0))) fun v7 =>
  cnd v7 (
    sv PR (Instr.build 60 #[]) w6 fun v9 w10 =>
    stW 3 v1 v9 w10 fun w11 =>
    lN 3 v1 w11 fun v12 =>
    R (.tuple #[(.int .i64 0), v12, (.int .i64 3)]) w11) (
    pO (ncO x0) fun v14 =>
    pO (faO 1 v14) fun v15 =>
    l1 v15 w6 fun v16 =>
    pO (arithO .sub v16 (.int .i64 1)) fun v17 =>
    pO (ncO x0) fun v19 =>
    pO (faO 0 v19) fun v20 =>
    l1 v20 w6.drew fun v21 =>
    pO (ixsO 10 v21 v17) fun v22 =>
    pO (faO 0 v22) fun v23 =>
    lN 3 v23 w6.drew fun v24 =>
    stW 3 v1 v24 w6.drew fun w25 =>
    lN 3 v1 w25 fun v26 =>
    R (.tuple #[v17, v26, (.int .i64 0)]) w25)
def a38 : Ann := (.two .nil (.two (.two .nil (.two (.two .nil .nil) .nil)) (.two .nil (.two (.planA [(0, .pure), (1, .pure), (2, .pure), (3, .pure), (5, .pure), (9, .pure), (4, .load), (6, .pure), (7, .pure), (8, .load), (10, .hard), (11, .pure)]) .nil))))
theorem f38_ret {x0 : Value} {w0 : World} {R : Kv} (h : f38 x0 w0 R) : Ret PR 38 #[x0] w0 R :=
  ret_of_vc (fn := Try.f38) (c := body Try.f38) (x := a38) (args := [x0]) follows Try.func38 (body_eq (by kernel_rfl)) (by kernel_rfl) (Nat.le_of_ble_eq_true (by kernel_rfl))
    (Eq.mp (show f38 x0 w0 R = vcF PR Try.f38.results.toList (body Try.f38) a38 [x0] w0 R by kernel_rfl) h)

/-- (*drover/fib.Heap).ring -/
def f39 (x0 x1 : Value) (w0 : World) (R : Kv) : Prop :=
  sv PR (Instr.buildSlice 84 1 #[(0, x1)]) w0 fun v2 w3 =>
  pO (ncO x0) fun v6 =>
  pO (faO 0 v6) fun v7 =>
  l1 v7 w3 fun v8 =>
  pO (ixsO 10 v8 x1) fun v9 =>
  pO (faO 6 v9) fun v10 =>
  l1 v10 w3 fun v11 =>
  loopV (X := Value × Value) (v2, v11) w3 (fun K61 x60 w29 => ∀ _ : Env,
    pO (cmpO true (eqlO x60.2 x1)) fun v64 =>
    cnd v64 (
      sv PR (Instr.buildSlice 84 1 #[(0, x60.2)]) w29 fun v66 w67 =>
      sv PR (Builtin.append_ #[84, 84] 84 #[x60.1, v66]) w67 fun v68 w69 =>
      pO (ncO x0) fun v70 =>
      pO (faO 0 v70) fun v71 =>
      l1 v71 w69 fun v72 =>
      pO (ixsO 10 v72 x60.2) fun v73 =>
      pO (faO 6 v73) fun v74 =>
      l1 v74 w69 fun v75 =>
      K61 (v68, v75) w69) (
      R x60.1 w29))
def a39 : Ann := (.two .nil (.two .nil (.two (.two .nil (.loop [17, 18, 19, 28, 29, 30, 31, 5, 20, 21, 22, 23, 24, 25, 26, 27, 6] [5, 6] (.two (.two .nil (.two .nil .nil)) (.two .nil .nil)))) (.two .nil .nil))))
theorem f39_ret {x0 x1 : Value} {w0 : World} {R : Kv} (h : f39 x0 x1 w0 R) : Ret PR 39 #[x0, x1] w0 R :=
  ret_of_vc (fn := Try.f39) (c := body Try.f39) (x := a39) (args := [x0, x1]) follows Try.func39 (body_eq (by kernel_rfl)) (by kernel_rfl) (Nat.le_of_ble_eq_true (by kernel_rfl))
    (Eq.mp (show f39 x0 x1 w0 R = vcF PR Try.f39.results.toList (body Try.f39) a39 [x0, x1] w0 R by kernel_rfl) h)

/-- (*drover/fib.Heap).gathered -/
def f40 (x0 x1 : Value) (w0 : World) (R : Kv) : Prop :=
  sv PR (Instr.alloc 107 true (.tuple #[])) w0 fun v1 w2 =>
  pO (lenO x1) fun v5 =>
  loopV (X := Value) (.int .i64 0) w2 (fun K702 x701 w74 => ∀ _ : Env,
    pO (arithO .lss x701 v5) fun v704 =>
    cnd v704 (
      pO (ixsO 1 x1 x701) fun v708 =>
      l1 v708 w74 fun v709 =>
      pO (ncO x0) fun v711 =>
      pO (faO 0 v711) fun v712 =>
      pO (ncO x0) fun v713 =>
      pO (faO 0 v713) fun v714 =>
      l1 v712 w74.drew fun v715 =>
      l1 v714 w74.drew fun v716 =>
      pO (ixsO 10 v715 v709) fun v717 =>
      pO (faO 3 v717) fun v718 =>
      stW 1 v718 (.int .i64 (-1)) w74.drew fun w719 =>
      pO (ixsO 10 v716 v709) fun v720 =>
      pO (faO 8 v720) fun v721 =>
      stW 1 v721 (.bool false) w719 fun w722 =>
      loopV (X := Value) v709 w722 (fun K870 x869 w762 => ∀ _ : Env,
        pO (ncO x0) fun v873 =>
        pO (faO 0 v873) fun v874 =>
        l1 v874 w762 fun v875 =>
        pO (ixsO 10 v875 x869) fun v876 =>
        pO (faO 7 v876) fun v877 =>
        l1 v877 w762 fun v878 =>
        pO (ixaO 64 1 v1 v878) fun v879 =>
        l1 v879 w762 fun v880 =>
        pO (cmpO true (eqlO v880 (.int .i64 0))) fun v881 =>
        cnd v881 (
          pO (ncO x0) fun v883 =>
          pO (faO 0 v883) fun v884 =>
          l1 v884 w762 fun v885 =>
          pO (ixsO 10 v885 x869) fun v886 =>
          pO (faO 7 v886) fun v887 =>
          l1 v887 w762 fun v888 =>
          pO (ixaO 64 1 v1 v888) fun v890 =>
          l1 v890 w762 fun v891 =>
          pO (arithO .sub v891 (.int .i64 1)) fun v892 =>
          pO (ixaO 64 1 v1 v888) fun v894 =>
          stW 1 v894 (.int .i64 0) w762 fun w895 =>
          join (X := Value × Value) (fun x907 w904 => ∀ _ : Env,
            Ret PR 62 #[x0, x907.2, x907.1] w904 fun v908 w909 =>
            K870 x907.1 w909)
          (fun K910 =>
            Ret PR 61 #[x0, v892, x869] w895 fun v912 w913 =>
            cnd v912 (
              K910 (v892, x869) w913) (
              K910 (x869, v892) w913))) (
          pO (ncO x0) fun v914 =>
          pO (faO 0 v914) fun v915 =>
          l1 v915 w762 fun v916 =>
          pO (ixsO 10 v916 x869) fun v917 =>
          pO (faO 7 v917) fun v918 =>
          l1 v918 w762 fun v919 =>
          pO (arithO .add x869 (.int .i64 1)) fun v920 =>
          pO (ixaO 64 1 v1 v919) fun v921 =>
          stW 1 v921 v920 w762 fun w922 =>
          pO (arithO .add x701 (.int .i64 1)) fun v923 =>
          K702 v923 w922))) (
      pO (ncO x0) fun v925 =>
      pO (faO 1 v925) fun v926 =>
      stW 1 v926 (.int .i64 0) w74 fun w927 =>
      lN 64 v1 w927 fun v929 =>
      loopV (X := Value) (.int .i64 0) w927 (fun K991 x990 w941 => ∀ _ : Env,
        pO (arithO .lss x990 (.int .i64 64)) fun v993 =>
        cnd v993 (
          join (X := Unit) (fun x1005 w1003 => ∀ _ : Env,
            pO (arithO .add x990 (.int .i64 1)) fun v1006 =>
            K991 v1006 w1003)
          (fun K1007 =>
            sv PR (Instr.index 107 v929 x990) w941 fun v1009 w1010 =>
            pO (cmpO true (eqlO v1009 (.int .i64 0))) fun v1012 =>
            cnd v1012 (
              pO (arithO .sub v1009 (.int .i64 1)) fun v1013 =>
              Ret PR 37 #[x0, v1013] w1010 fun v1014 w1015 =>
              K1007 () w1015) (
              K1007 () w1010))) (
          R (.tuple #[]) w941))))
def a40 : Ann := (.two .nil (.two (.two .nil (.loop [14, 15, 16, 6, 17, 18, 19, 20, 21, 22, 23, 24, 25, 26, 27, 28, 29, 30, 31, 32, 33, 34, 35, 36, 37, 38, 39, 40, 41, 42, 43, 44, 45, 46, 47, 48, 49, 7, 50, 51, 52, 53, 8, 54, 55, 56, 57, 58, 59, 60, 61, 62, 63, 64, 65, 66, 67, 68, 69, 70, 71, 72, 73, 74, 75, 76, 77, 13] [13] (.two .nil (.two (.two .nil .nil) (.two (.two .nil (.two (.planA [(0, .pure), (1, .pure), (2, .pure), (4, .pure), (5, .pure), (6, .pure), (7, .pure), (9, .pure), (3, .load), (8, .load), (10, .pure), (11, .pure), (12, .hard), (13, .pure), (14, .pure), (15, .hard)]) (.two (.loop [31, 32, 33, 34, 35, 36, 37, 38, 39, 40, 41, 42, 43, 44, 45, 46, 47, 48, 49, 7, 50, 51, 52, 53, 8, 54, 55, 56, 57, 58, 59, 60, 61, 6, 62, 63, 64, 65] [6] (.two (.two .nil (.two .nil .nil)) (.two .nil (.two .nil (.two .nil (.join [56, 57, 58, 59, 60, 61, 6, 8] [6, 8] (.two .nil (.two .nil .nil)) .nil)))))) .nil))) .nil))))) (.two .nil (.two .nil (.loop [83, 84, 10, 85, 86, 87, 88, 89, 90, 91, 82] [82] (.two .nil (.two (.two .nil .nil) (.join [84, 10, 85, 86, 87, 88, 89, 90] [] (.two .nil (.two .nil (.two .nil .nil))) .nil))))))))
theorem f40_ret {x0 x1 : Value} {w0 : World} {R : Kv} (h : f40 x0 x1 w0 R) : Ret PR 40 #[x0, x1] w0 R :=
  ret_of_vc (fn := Try.f40) (c := body Try.f40) (x := a40) (args := [x0, x1]) follows Try.func40 (body_eq (by kernel_rfl)) (by kernel_rfl) (Nat.le_of_ble_eq_true (by kernel_rfl))
    (Eq.mp (show f40 x0 x1 w0 R = vcF PR Try.f40.results.toList (body Try.f40) a40 [x0, x1] w0 R by kernel_rfl) h)

/-- drover/droverref03.over -/
def f41 (x0 x1 x2 x3 : Value) (w0 : World) (R : Kv) : Prop :=
  pO (arithO .quo x0 (.int .i64 1048576)) fun v2 =>
  pO (arithO .quo x1 (.int .i64 1048576)) fun v3 =>
  pO (arithO .mul v2 v3) fun v4 =>
  pO (arithO .quo x0 (.int .i64 1048576)) fun v5 =>
  pO (arithO .rem x1 (.int .i64 1048576)) fun v6 =>
  pO (arithO .mul v5 v6) fun v7 =>
  pO (arithO .rem x0 (.int .i64 1048576)) fun v8 =>
  pO (arithO .quo x1 (.int .i64 1048576)) fun v9 =>
  pO (arithO .mul v8 v9) fun v10 =>
  pO (arithO .add v7 v10) fun v11 =>
  pO (arithO .rem x0 (.int .i64 1048576)) fun v12 =>
  pO (arithO .rem x1 (.int .i64 1048576)) fun v13 =>
  pO (arithO .mul v12 v13) fun v14 =>
  sv PR (Instr.build 108 #[(0, v4), (1, v11), (2, v14)]) w0 fun v15 w16 =>
  sv PR (Instr.alloc 108 true (.tuple #[])) w16 fun v17 w18 =>
  stW 3 v17 v15 w18 fun w19 =>
  pO (arithO .quo x2 (.int .i64 1048576)) fun v21 =>
  pO (arithO .quo x3 (.int .i64 1048576)) fun v22 =>
  pO (arithO .mul v21 v22) fun v23 =>
  pO (arithO .quo x2 (.int .i64 1048576)) fun v24 =>
  pO (arithO .rem x3 (.int .i64 1048576)) fun v25 =>
  pO (arithO .mul v24 v25) fun v26 =>
  pO (arithO .rem x2 (.int .i64 1048576)) fun v27 =>
  pO (arithO .quo x3 (.int .i64 1048576)) fun v28 =>
  pO (arithO .mul v27 v28) fun v29 =>
  pO (arithO .add v26 v29) fun v30 =>
  pO (arithO .rem x2 (.int .i64 1048576)) fun v31 =>
  pO (arithO .rem x3 (.int .i64 1048576)) fun v32 =>
  pO (arithO .mul v31 v32) fun v33 =>
  sv PR (Instr.build 108 #[(0, v23), (1, v30), (2, v33)]) w19 fun v34 w35 =>
  sv PR (Instr.alloc 108 true (.tuple #[])) w35 fun v36 w37 =>
  stW 3 v36 v34 w37 fun w38 =>
  pO (ixaO 3 1 v17 (.int .i64 1)) fun v40 =>
  l1 v40 w38 fun v41 =>
  pO (ixaO 3 1 v17 (.int .i64 2)) fun v42 =>
  l1 v42 w38 fun v43 =>
  pO (arithO .quo v43 (.int .i64 1048576)) fun v44 =>
  pO (arithO .add v41 v44) fun v45 =>
  pO (ixaO 3 1 v17 (.int .i64 1)) fun v46 =>
  stW 1 v46 v45 w38 fun w47 =>
  pO (ixaO 3 1 v36 (.int .i64 1)) fun v49 =>
  l1 v49 w47 fun v50 =>
  pO (ixaO 3 1 v36 (.int .i64 2)) fun v51 =>
  l1 v51 w47 fun v52 =>
  pO (arithO .quo v52 (.int .i64 1048576)) fun v53 =>
  pO (arithO .add v50 v53) fun v54 =>
  pO (ixaO 3 1 v36 (.int .i64 1)) fun v55 =>
  stW 1 v55 v54 w47 fun w56 =>
  pO (ixaO 3 1 v17 (.int .i64 0)) fun v58 =>
  l1 v58 w56 fun v59 =>
  pO (ixaO 3 1 v17 (.int .i64 1)) fun v60 =>
  l1 v60 w56 fun v61 =>
  pO (arithO .quo v61 (.int .i64 1048576)) fun v62 =>
  pO (arithO .add v59 v62) fun v63 =>
  pO (ixaO 3 1 v17 (.int .i64 0)) fun v64 =>
  stW 1 v64 v63 w56 fun w65 =>
  pO (ixaO 3 1 v36 (.int .i64 0)) fun v67 =>
  l1 v67 w65 fun v68 =>
  pO (ixaO 3 1 v36 (.int .i64 1)) fun v69 =>
  l1 v69 w65 fun v70 =>
  pO (arithO .quo v70 (.int .i64 1048576)) fun v71 =>
  pO (arithO .add v68 v71) fun v72 =>
  pO (ixaO 3 1 v36 (.int .i64 0)) fun v73 =>
  stW 1 v73 v72 w65 fun w74 =>
  pO (ixaO 3 1 v17 (.int .i64 0)) fun v77 =>
  l1 v77 w74 fun v78 =>
  pO (ixaO 3 1 v36 (.int .i64 0)) fun v79 =>
  l1 v79 w74 fun v80 =>
  pO (cmpO true (eqlO v78 v80)) fun v81 =>
  cnd v81 (
    pO (ixaO 3 1 v17 (.int .i64 0)) fun v83 =>
    l1 v83 w74 fun v84 =>
    pO (ixaO 3 1 v36 (.int .i64 0)) fun v85 =>
    l1 v85 w74 fun v86 =>
    pO (arithO .gtr v84 v86) fun v87 =>
    R v87 w74) (
    pO (ixaO 3 1 v17 (.int .i64 1)) fun v90 =>
    l1 v90 w74 fun v91 =>
    pO (arithO .rem v91 (.int .i64 1048576)) fun v92 =>
    pO (ixaO 3 1 v36 (.int .i64 1)) fun v93 =>
    l1 v93 w74 fun v94 =>
    pO (arithO .rem v94 (.int .i64 1048576)) fun v95 =>
    pO (cmpO true (eqlO v92 v95)) fun v96 =>
    cnd v96 (
      pO (ixaO 3 1 v17 (.int .i64 1)) fun v98 =>
      l1 v98 w74 fun v99 =>
      pO (arithO .rem v99 (.int .i64 1048576)) fun v100 =>
      pO (ixaO 3 1 v36 (.int .i64 1)) fun v101 =>
      l1 v101 w74 fun v102 =>
      pO (arithO .rem v102 (.int .i64 1048576)) fun v103 =>
      pO (arithO .gtr v100 v103) fun v104 =>
      R v104 w74) (
      pO (ixaO 3 1 v17 (.int .i64 2)) fun v106 =>
      l1 v106 w74 fun v107 =>
      pO (arithO .rem v107 (.int .i64 1048576)) fun v108 =>
      pO (ixaO 3 1 v36 (.int .i64 2)) fun v109 =>
      l1 v109 w74 fun v110 =>
      pO (arithO .rem v110 (.int .i64 1048576)) fun v111 =>
      pO (arithO .gtr v108 v111) fun v112 =>
      R v112 w74))
def a41 : Ann := (.two .nil (.two .nil (.two .nil (.two .nil (.two .nil (.two .nil (.two .nil (.two (.two .nil (.two (.two .nil .nil) .nil)) (.two (.two .nil (.two (.two .nil .nil) .nil)) (.two .nil .nil))))))))))
theorem f41_ret {x0 x1 x2 x3 : Value} {w0 : World} {R : Kv} (h : f41 x0 x1 x2 x3 w0 R) : Ret PR 41 #[x0, x1, x2, x3] w0 R :=
  ret_of_vc (fn := Try.f41) (c := body Try.f41) (x := a41) (args := [x0, x1, x2, x3]) follows Try.func41 (body_eq (by kernel_rfl)) (by kernel_rfl) (Nat.le_of_ble_eq_true (by kernel_rfl))
    (Eq.mp (show f41 x0 x1 x2 x3 w0 R = vcF PR Try.f41.results.toList (body Try.f41) a41 [x0, x1, x2, x3] w0 R by kernel_rfl) h)

/-- drover/droverref02.New -/
def f42 (x0 x1 : Value) (w0 : World) (R : Kv) : Prop :=
  sv PR (Instr.alloc 64 true (.tuple #[])) w0 fun v1 w2 =>
  pO (cmpO false (eqlO x1 (.int .u64 0))) fun v5 =>
  cnd v5 (
    sv PR (Instr.build 64 #[]) w2 fun v7 w8 =>
    stW 2 v1 v7 w8 fun w9 =>
    lN 2 v1 w9 fun v10 =>
    R (.tuple #[v10, (.int .i64 2)]) w9) (
    loopV (X := Value × Value) (x0, x1) w2 (fun K51 x50 w23 => ∀ _ : Env,
      pO (cmpO true (eqlO x50.2 (.int .u64 0))) fun v54 =>
      cnd v54 (
        pO (arithO .rem x50.1 x50.2) fun v56 =>
        K51 (x50.2, v56) w23) (
        pO (arithO .quo x0 x50.1) fun v59 =>
        pO (arithO .quo x1 x50.1) fun v60 =>
        sv PR (Instr.build 64 #[(0, v59), (1, v60)]) w23.drew fun v61 w62 =>
        stW 2 v1 v61 w62 fun w63 =>
        lN 2 v1 w63 fun v64 =>
        R (.tuple #[v64, (.int .i64 0)]) w63)))
def a42 : Ann := (.two .nil (.two (.two .nil (.two (.two .nil .nil) .nil)) (.two .nil (.two (.loop [14, 15, 16, 17, 18, 8, 19, 6, 20, 7] [6, 7] (.two (.two .nil (.two .nil .nil)) (.two .nil (.two .nil .nil)))) (.two (.planA [(0, .pure), (1, .pure), (2, .pure), (3, .pure), (4, .pure), (5, .pure), (6, .hard), (7, .hard), (8, .pure)]) .nil)))))
theorem f42_ret {x0 x1 : Value} {w0 : World} {R : Kv} (h : f42 x0 x1 w0 R) : Ret PR 42 #[x0, x1] w0 R :=
  ret_of_vc (fn := Try.f42) (c := body Try.f42) (x := a42) (args := [x0, x1]) follows Try.func42 (body_eq (by kernel_rfl)) (by kernel_rfl) (Nat.le_of_ble_eq_true (by kernel_rfl))
    (Eq.mp (show f42 x0 x1 w0 R = vcF PR Try.f42.results.toList (body Try.f42) a42 [x0, x1] w0 R by kernel_rfl) h)

/-- drover/droverref02.Cmp -/
def f43 (x0 x1 : Value) (w0 : World) (R : Kv) : Prop :=
  bx 64 x0 w0 fun v1 w2 =>
  bx 64 x1 w2 fun v3 w4 =>
  pO (faO 1 v1) fun v7 =>
  l1 v7 w4 fun v8 =>
  pO (cmpO false (eqlO v8 (.int .u64 0))) fun v9 =>
  gB (X := Value) v9 false undef (fun K791 =>
    pO (faO 1 v3) fun v792 =>
    l1 v792 w4 fun v793 =>
    pO (cmpO false (eqlO v793 (.int .u64 0))) fun v794 =>
    K791 v794 w4) w4 fun x402 w13 =>
  pO (pkO v9 (.bool true) x402) fun v403 =>
  cnd v403 (
    R (.tuple #[(.int .i64 0), (.int .i64 4)]) w13) (
    pO (faO 0 v1) fun v407 =>
    l1 v407 w13 fun v408 =>
    pO (arithO .lss v408 (.int .u64 4294967296)) fun v409 =>
    gB (X := Value) v409 true undef (fun K787 =>
      pO (faO 1 v1) fun v788 =>
      l1 v788 w13 fun v789 =>
      pO (arithO .lss v789 (.int .u64 4294967296)) fun v790 =>
      K787 v790 w13) w13 fun x600 w413 =>
    pO (pkO v409 x600 (.bool false)) fun v601 =>
    gB (X := Value) v601 true undef (fun K783 =>
      pO (faO 0 v3) fun v784 =>
      l1 v784 w413 fun v785 =>
      pO (arithO .lss v785 (.int .u64 4294967296)) fun v786 =>
      K783 v786 w413) w413 fun x694 w605 =>
    pO (pkO v601 x694 (.bool false)) fun v695 =>
    gB (X := Value) v695 true undef (fun K779 =>
      pO (faO 1 v3) fun v780 =>
      l1 v780 w605 fun v781 =>
      pO (arithO .lss v781 (.int .u64 4294967296)) fun v782 =>
      K779 v782 w605) w605 fun x739 w699 =>
    pO (pkO v695 x739 (.bool false)) fun v740 =>
    cnd v740 (
      ∃ C742 : World → Prop, C742 w699.drew ∧
      pO (faO 0 v1) fun v743 =>
      pO (faO 1 v3) fun v744 =>
      pO (faO 0 v3) fun v745 =>
      pO (faO 1 v1) fun v746 =>
      l1C C742 v743 fun v747 =>
      l1C C742 v744 fun v748 =>
      pO (arithO .mul v747 v748) fun v749 =>
      l1C C742 v745 fun v750 =>
      l1C C742 v746 fun v751 =>
      pO (arithO .mul v750 v751) fun v752 =>
      Ret PR 64 #[v749] w699.drew fun v753 w754 =>
      C742 w754 ∧
      Ret PR 64 #[v752] w754 fun v755 w756 =>
      Ret PR 63 #[v753, v755] w756 fun v757 w758 =>
      R (.tuple #[v757, (.int .i64 0)]) w758) (
      ∃ C760 : World → Prop, C760 w699.drew ∧
      pO (faO 0 v1) fun v761 =>
      pO (faO 1 v3) fun v762 =>
      pO (faO 0 v3) fun v763 =>
      pO (faO 1 v1) fun v764 =>
      l1C C760 v761 fun v765 =>
      l1C C760 v762 fun v766 =>
      l1C C760 v763 fun v767 =>
      l1C C760 v764 fun v768 =>
      Ret PR 64 #[v765] w699.drew fun v769 w770 =>
      C760 w770 ∧
      Ret PR 65 #[v769, v766] w770 fun v771 w772 =>
      C760 w772 ∧
      Ret PR 64 #[v767] w772 fun v773 w774 =>
      C760 w774 ∧
      Ret PR 65 #[v773, v768] w774 fun v775 w776 =>
      Ret PR 63 #[v771, v775] w776 fun v777 w778 =>
      R (.tuple #[v777, (.int .i64 0)]) w778))
def a43 : Ann := (.two .nil (.two (.two .nil (.two (.two .nil .nil) .nil)) (.two (.two .nil (.two (.two (.planB [(0, .pure), (2, .pure), (6, .pure), (8, .pure), (1, .load), (3, .load), (4, .pure), (7, .load), (9, .load), (10, .pureF), (5, .hardF), (11, .hard), (12, .hard), (13, .pure), (14, .pure)]) .nil) .nil)) (.two (.planB [(0, .pure), (3, .pure), (6, .pure), (9, .pure), (1, .load), (4, .load), (7, .load), (10, .load), (2, .hardF), (5, .hardF), (8, .hardF), (11, .hard), (12, .hard), (13, .pure), (14, .pure)]) .nil))))
theorem f43_ret {x0 x1 : Value} {w0 : World} {R : Kv} (h : f43 x0 x1 w0 R) : Ret PR 43 #[x0, x1] w0 R :=
  ret_of_vc (fn := Try.f43) (c := body Try.f43) (x := a43) (args := [x0, x1]) follows Try.func43 (body_eq (by kernel_rfl)) (by kernel_rfl) (Nat.le_of_ble_eq_true (by kernel_rfl))
    (Eq.mp (show f43 x0 x1 w0 R = vcF PR Try.f43.results.toList (body Try.f43) a43 [x0, x1] w0 R by kernel_rfl) h)

/-- slices.Index[[]string,string] -/
def f44 (x0 x1 : Value) (w0 : World) (R : Kv) : Prop :=
  pO (lenO x0) fun v3 =>
  loopV (X := Value) (.int .i64 0) w0 (fun K43 x42 w17 => ∀ _ : Env,
    pO (arithO .lss x42 v3) fun v45 =>
    cnd v45 (
      pO (ixsO 1 x0 x42) fun v50 =>
      l1 v50 w17 fun v51 =>
      pO (cmpO false (eqlO x1 v51)) fun v52 =>
      cnd v52 (
        R x42 w17) (
        pO (arithO .add x42 (.int .i64 1)) fun v54 =>
        K43 v54 w17)) (
      R (.int .i64 (-1)) w17))
def a44 : Ann := (.two .nil (.two (.two .nil (.loop [9, 10, 5, 11, 12, 13, 14, 15, 16, 17, 4, 18, 8] [8] (.two .nil (.two (.two .nil .nil) (.two (.two .nil (.two .nil (.two (.two .nil .nil) .nil))) .nil))))) (.two .nil .nil)))
theorem f44_ret {x0 x1 : Value} {w0 : World} {R : Kv} (h : f44 x0 x1 w0 R) : Ret PR 44 #[x0, x1] w0 R :=
  ret_of_vc (fn := Try.f44) (c := body Try.f44) (x := a44) (args := [x0, x1]) follows Try.func44 (body_eq (by kernel_rfl)) (by kernel_rfl) (Nat.le_of_ble_eq_true (by kernel_rfl))
    (Eq.mp (show f44 x0 x1 w0 R = vcF PR Try.f44.results.toList (body Try.f44) a44 [x0, x1] w0 R by kernel_rfl) h)

/-- drover/ratio.lowest -/
def f45 (x0 x1 : Value) (w0 : World) (R : Kv) : Prop :=
  sv PR (Instr.alloc 48 true (.tuple #[])) w0 fun v1 w2 =>
  Ret PR 66 #[x0, x1] w2 fun v4 w5 =>
  pO (arithO .quo x0 v4) fun v7 =>
  pO (arithO .quo x1 v4) fun v8 =>
  sv PR (Instr.build 48 #[(0, v7), (1, v8)]) w5.drew fun v9 w10 =>
  stW 2 v1 v9 w10 fun w11 =>
  lN 2 v1 w11 fun v12 =>
  R v12 w11
def a45 : Ann := (.two .nil (.two .nil (.two (.planA [(0, .pure), (1, .pure), (2, .pure), (3, .pure), (4, .pure), (5, .pure), (6, .hard), (7, .hard)]) .nil)))
theorem f45_ret {x0 x1 : Value} {w0 : World} {R : Kv} (h : f45 x0 x1 w0 R) : Ret PR 45 #[x0, x1] w0 R :=
  ret_of_vc (fn := Try.f45) (c := body Try.f45) (x := a45) (args := [x0, x1]) follows Try.func45 (body_eq (by kernel_rfl)) (by kernel_rfl) (Nat.le_of_ble_eq_true (by kernel_rfl))
    (Eq.mp (show f45 x0 x1 w0 R = vcF PR Try.f45.results.toList (body Try.f45) a45 [x0, x1] w0 R by kernel_rfl) h)

/-- math/bits.Mul64 -/
def f46 (x0 x1 : Value) (w0 : World) (R : Kv) : Prop :=
  pO (arithO .and x0 (.int .u64 4294967295)) fun v2 =>
  pO (arithO .shr x0 (.int .u64 32)) fun v4 =>
  pO (arithO .and x1 (.int .u64 4294967295)) fun v6 =>
  pO (arithO .shr x1 (.int .u64 32)) fun v8 =>
  pO (arithO .mul v2 v6) fun v10 =>
  pO (arithO .mul v4 v6) fun v12 =>
  pO (arithO .shr v10 (.int .u64 32)) fun v13 =>
  pO (arithO .add v12 v13) fun v14 =>
  pO (arithO .and v14 (.int .u64 4294967295)) fun v16 =>
  pO (arithO .shr v14 (.int .u64 32)) fun v18 =>
  pO (arithO .mul v2 v8) fun v20 =>
  pO (arithO .add v16 v20) fun v21 =>
  pO (arithO .mul v4 v8) fun v23 =>
  pO (arithO .add v23 v18) fun v24 =>
  pO (arithO .shr v21 (.int .u64 32)) fun v25 =>
  pO (arithO .add v24 v25) fun v26 =>
  pO (arithO .mul x0 x1) fun v28 =>
  R (.tuple #[v26, v28]) w0
def a46 : Ann := (.two .nil (.two .nil (.two .nil (.two .nil (.two .nil (.two .nil (.two .nil (.two .nil (.two .nil (.two .nil (.two .nil (.two .nil .nil))))))))))))
theorem f46_ret {x0 x1 : Value} {w0 : World} {R : Kv} (h : f46 x0 x1 w0 R) : Ret PR 46 #[x0, x1] w0 R :=
  ret_of_vc (fn := Try.f46) (c := body Try.f46) (x := a46) (args := [x0, x1]) follows Try.func46 (body_eq (by kernel_rfl)) (by kernel_rfl) (Nat.le_of_ble_eq_true (by kernel_rfl))
    (Eq.mp (show f46 x0 x1 w0 R = vcF PR Try.f46.results.toList (body Try.f46) a46 [x0, x1] w0 R by kernel_rfl) h)

/-- cmp.Or[int] -/
def f47 (x0 : Value) (w0 : World) (R : Kv) : Prop :=
  pO (lenO x0) fun v4 =>
  loopV (X := Value) (.int .i64 0) w0 (fun K42 x41 w16 => ∀ _ : Env,
    pO (arithO .lss x41 v4) fun v44 =>
    cnd v44 (
      pO (ixsO 1 x0 x41) fun v48 =>
      l1 v48 w16 fun v49 =>
      pO (cmpO true (eqlO v49 (.int .i64 0))) fun v51 =>
      cnd v51 (
        R v49 w16) (
        pO (arithO .add x41 (.int .i64 1)) fun v53 =>
        K42 v53 w16)) (
      R (.int .i64 0) w16))
def a47 : Ann := (.two .nil (.two .nil (.two (.two .nil (.loop [9, 10, 11, 5, 12, 13, 14, 15, 2, 16, 8] [8] (.two .nil (.two (.two .nil .nil) (.two (.two .nil (.two .nil (.two (.two .nil .nil) .nil))) .nil))))) (.two .nil .nil))))
theorem f47_ret {x0 : Value} {w0 : World} {R : Kv} (h : f47 x0 w0 R) : Ret PR 47 #[x0] w0 R :=
  ret_of_vc (fn := Try.f47) (c := body Try.f47) (x := a47) (args := [x0]) follows Try.func47 (body_eq (by kernel_rfl)) (by kernel_rfl) (Nat.le_of_ble_eq_true (by kernel_rfl))
    (Eq.mp (show f47 x0 w0 R = vcF PR Try.f47.results.toList (body Try.f47) a47 [x0] w0 R by kernel_rfl) h)

/-- cmp.Compare[uint64] -/
def f48 (x0 x1 : Value) (w0 : World) (R : Kv) : Prop :=
  Ret PR 67 #[x0] w0 fun v2 w3 =>
  Ret PR 67 #[x1] w3 fun v5 w6 =>
  cnd v2 (
    cnd v5 (
      R (.int .i64 0) w6) (
      R (.int .i64 (-1)) w6)) (
    cnd v5 (
      R (.int .i64 1) w6) (
      pO (arithO .lss x0 x1) fun v18 =>
      cnd v18 (
        R (.int .i64 (-1)) w6) (
        pO (arithO .gtr x0 x1) fun v22 =>
        cnd v22 (
          R (.int .i64 1) w6) (
          R (.int .i64 0) w6))))
def a48 : Ann := (.two .nil (.two .nil (.two .nil (.two (.two .nil (.two (.two (.two .nil (.two (.two .nil .nil) .nil)) (.two .nil .nil)) .nil)) (.two (.two .nil (.two (.two .nil .nil) .nil)) (.two (.two .nil (.two (.two .nil .nil) .nil)) (.two (.two .nil (.two (.two .nil .nil) .nil)) (.two .nil .nil))))))))
theorem f48_ret {x0 x1 : Value} {w0 : World} {R : Kv} (h : f48 x0 x1 w0 R) : Ret PR 48 #[x0, x1] w0 R :=
  ret_of_vc (fn := Try.f48) (c := body Try.f48) (x := a48) (args := [x0, x1]) follows Try.func48 (body_eq (by kernel_rfl)) (by kernel_rfl) (Nat.le_of_ble_eq_true (by kernel_rfl))
    (Eq.mp (show f48 x0 x1 w0 R = vcF PR Try.f48.results.toList (body Try.f48) a48 [x0, x1] w0 R by kernel_rfl) h)

/-- math/bits.Len32 -/
def f57 (x0 : Value) (w0 : World) (R : Kv) : Prop :=
  join (X := Value × Value) (fun x34 w7 => ∀ _ : Env,
    join (X := Value × Value) (fun x49 w43 => ∀ _ : Env,
      pO (cviO .u8 x49.1) fun v51 =>
      pO (ixstrO (.string ⟨#[0, 1, 2, 2, 3, 3, 3, 3, 4, 4, 4, 4, 4, 4, 4, 4, 5, 5, 5, 5, 5, 5, 5, 5, 5, 5, 5, 5, 5, 5, 5, 5, 6, 6, 6, 6, 6, 6, 6, 6, 6, 6, 6, 6, 6, 6, 6, 6, 6, 6, 6, 6, 6, 6, 6, 6, 6, 6, 6, 6, 6, 6, 6, 6, 7, 7, 7, 7, 7, 7, 7, 7, 7, 7, 7, 7, 7, 7, 7, 7, 7, 7, 7, 7, 7, 7, 7, 7, 7, 7, 7, 7, 7, 7, 7, 7, 7, 7, 7, 7, 7, 7, 7, 7, 7, 7, 7, 7, 7, 7, 7, 7, 7, 7, 7, 7, 7, 7, 7, 7, 7, 7, 7, 7, 7, 7, 7, 7, 8, 8, 8, 8, 8, 8, 8, 8, 8, 8, 8, 8, 8, 8, 8, 8, 8, 8, 8, 8, 8, 8, 8, 8, 8, 8, 8, 8, 8, 8, 8, 8, 8, 8, 8, 8, 8, 8, 8, 8, 8, 8, 8, 8, 8, 8, 8, 8, 8, 8, 8, 8, 8, 8, 8, 8, 8, 8, 8, 8, 8, 8, 8, 8, 8, 8, 8, 8, 8, 8, 8, 8, 8, 8, 8, 8, 8, 8, 8, 8, 8, 8, 8, 8, 8, 8, 8, 8, 8, 8, 8, 8, 8, 8, 8, 8, 8, 8, 8, 8, 8, 8, 8, 8, 8, 8, 8, 8, 8, 8, 8, 8, 8, 8, 8, 8, 8, 8, 8, 8, 8, 8, 8, 8, 8, 8, 8, 8]⟩) v51) fun v52 =>
      pO (cviO .i64 v52) fun v53 =>
      pO (arithO .add x49.2 v53) fun v54 =>
      R v54 w43)
    (fun K55 =>
      pO (arithO .geq x34.1 (.int .u32 256)) fun v57 =>
      cnd v57 (
        pO (arithO .shr x34.1 (.int .u64 8)) fun v59 =>
        pO (arithO .add x34.2 (.int .i64 8)) fun v60 =>
        K55 (v59, v60) w7) (
        K55 (x34.1, x34.2) w7)))
  (fun K61 =>
    pO (arithO .geq x0 (.int .u32 65536)) fun v63 =>
    cnd v63 (
      pO (arithO .shr x0 (.int .u64 16)) fun v65 =>
      K61 (v65, (.int .i64 16)) w0) (
      K61 (x0, (.int .i64 0)) w0))
def a57 : Ann := (.two .nil (.join [3, 4, 5, 6, 0, 2] [0, 2] (.two .nil (.two (.two .nil .nil) .nil)) (.join [7, 8, 9, 10, 0, 11, 12, 2] [0, 2] (.two .nil (.two (.two .nil .nil) .nil)) (.two .nil .nil))))
theorem f57_ret {x0 : Value} {w0 : World} {R : Kv} (h : f57 x0 w0 R) : Ret PR 57 #[x0] w0 R :=
  ret_of_vc (fn := Try.f57) (c := body Try.f57) (x := a57) (args := [x0]) follows Try.func57 (body_eq (by kernel_rfl)) (by kernel_rfl) (Nat.le_of_ble_eq_true (by kernel_rfl))
    (Eq.mp (show f57 x0 w0 R = vcF PR Try.f57.results.toList (body Try.f57) a57 [x0] w0 R by kernel_rfl) h)

/-- math/bits.Len64 -/
def f58 (x0 : Value) (w0 : World) (R : Kv) : Prop :=
  join (X := Value × Value) (fun x76 w7 => ∀ _ : Env,
    join (X := Value × Value) (fun x112 w85 => ∀ _ : Env,
      join (X := Value × Value) (fun x127 w121 => ∀ _ : Env,
        pO (cviO .u8 x127.1) fun v129 =>
        pO (ixstrO (.string ⟨#[0, 1, 2, 2, 3, 3, 3, 3, 4, 4, 4, 4, 4, 4, 4, 4, 5, 5, 5, 5, 5, 5, 5, 5, 5, 5, 5, 5, 5, 5, 5, 5, 6, 6, 6, 6, 6, 6, 6, 6, 6, 6, 6, 6, 6, 6, 6, 6, 6, 6, 6, 6, 6, 6, 6, 6, 6, 6, 6, 6, 6, 6, 6, 6, 7, 7, 7, 7, 7, 7, 7, 7, 7, 7, 7, 7, 7, 7, 7, 7, 7, 7, 7, 7, 7, 7, 7, 7, 7, 7, 7, 7, 7, 7, 7, 7, 7, 7, 7, 7, 7, 7, 7, 7, 7, 7, 7, 7, 7, 7, 7, 7, 7, 7, 7, 7, 7, 7, 7, 7, 7, 7, 7, 7, 7, 7, 7, 7, 8, 8, 8, 8, 8, 8, 8, 8, 8, 8, 8, 8, 8, 8, 8, 8, 8, 8, 8, 8, 8, 8, 8, 8, 8, 8, 8, 8, 8, 8, 8, 8, 8, 8, 8, 8, 8, 8, 8, 8, 8, 8, 8, 8, 8, 8, 8, 8, 8, 8, 8, 8, 8, 8, 8, 8, 8, 8, 8, 8, 8, 8, 8, 8, 8, 8, 8, 8, 8, 8, 8, 8, 8, 8, 8, 8, 8, 8, 8, 8, 8, 8, 8, 8, 8, 8, 8, 8, 8, 8, 8, 8, 8, 8, 8, 8, 8, 8, 8, 8, 8, 8, 8, 8, 8, 8, 8, 8, 8, 8, 8, 8, 8, 8, 8, 8, 8, 8, 8, 8, 8, 8, 8, 8, 8, 8, 8, 8]⟩) v129) fun v130 =>
        pO (cviO .i64 v130) fun v131 =>
        pO (arithO .add x127.2 v131) fun v132 =>
        R v132 w121)
      (fun K133 =>
        pO (arithO .geq x112.1 (.int .u64 256)) fun v135 =>
        cnd v135 (
          pO (arithO .shr x112.1 (.int .u64 8)) fun v137 =>
          pO (arithO .add x112.2 (.int .i64 8)) fun v138 =>
          K133 (v137, v138) w85) (
          K133 (x112.1, x112.2) w85)))
    (fun K139 =>
      pO (arithO .geq x76.1 (.int .u64 65536)) fun v141 =>
      cnd v141 (
        pO (arithO .shr x76.1 (.int .u64 16)) fun v143 =>
        pO (arithO .add x76.2 (.int .i64 16)) fun v144 =>
        K139 (v143, v144) w7) (
        K139 (x76.1, x76.2) w7)))
  (fun K145 =>
    pO (arithO .geq x0 (.int .u64 4294967296)) fun v147 =>
    cnd v147 (
      pO (arithO .shr x0 (.int .u64 32)) fun v149 =>
      K145 (v149, (.int .i64 32)) w0) (
      K145 (x0, (.int .i64 0)) w0))
def a58 : Ann := (.two .nil (.join [3, 4, 5, 6, 0, 2] [0, 2] (.two .nil (.two (.two .nil .nil) .nil)) (.join [7, 8, 9, 10, 0, 11, 12, 2] [0, 2] (.two .nil (.two (.two .nil .nil) .nil)) (.join [13, 14, 15, 16, 0, 17, 18, 2] [0, 2] (.two .nil (.two (.two .nil .nil) .nil)) (.two .nil .nil)))))
theorem f58_ret {x0 : Value} {w0 : World} {R : Kv} (h : f58 x0 w0 R) : Ret PR 58 #[x0] w0 R :=
  ret_of_vc (fn := Try.f58) (c := body Try.f58) (x := a58) (args := [x0]) follows Try.func58 (body_eq (by kernel_rfl)) (by kernel_rfl) (Nat.le_of_ble_eq_true (by kernel_rfl))
    (Eq.mp (show f58 x0 w0 R = vcF PR Try.f58.results.toList (body Try.f58) a58 [x0] w0 R by kernel_rfl) h)

/-- cmp.isNaN[string] -/
def f59 (x0 : Value) (w0 : World) (R : Kv) : Prop :=
  pO (cmpO true (eqlO x0 x0)) fun v2 =>
  R v2 w0
def a59 : Ann := (.two .nil (.two .nil .nil))
theorem f59_ret {x0 : Value} {w0 : World} {R : Kv} (h : f59 x0 w0 R) : Ret PR 59 #[x0] w0 R :=
  ret_of_vc (fn := Try.f59) (c := body Try.f59) (x := a59) (args := [x0]) follows Try.func59 (body_eq (by kernel_rfl)) (by kernel_rfl) (Nat.le_of_ble_eq_true (by kernel_rfl))
    (Eq.mp (show f59 x0 w0 R = vcF PR Try.f59.results.toList (body Try.f59) a59 [x0] w0 R by kernel_rfl) h)

/-- (*drover/fib.Heap).join -/
def f60 (x0 x1 x2 : Value) (w0 : World) (R : Kv) : Prop :=
  pO (ncO x0) fun v1 =>
  pO (faO 0 v1) fun v2 =>
  l1 v2 w0 fun v3 =>
  pO (ixsO 10 v3 x2) fun v5 =>
  pO (faO 6 v5) fun v6 =>
  l1 v6 w0 fun v7 =>
  pO (ixsO 10 v3 x1) fun v9 =>
  pO (faO 5 v9) fun v10 =>
  stW 1 v10 x2 w0 fun w11 =>
  pO (ixsO 10 v3 x1) fun v12 =>
  pO (faO 6 v12) fun v13 =>
  stW 1 v13 v7 w11 fun w14 =>
  pO (ixsO 10 v3 x2) fun v15 =>
  pO (faO 6 v15) fun v16 =>
  stW 1 v16 x1 w14 fun w17 =>
  pO (ixsO 10 v3 v7) fun v18 =>
  pO (faO 5 v18) fun v19 =>
  stW 1 v19 x1 w17 fun w20 =>
  R (.tuple #[]) w20
def a60 : Ann := (.two .nil (.two .nil (.two .nil .nil)))
theorem f60_ret {x0 x1 x2 : Value} {w0 : World} {R : Kv} (h : f60 x0 x1 x2 w0 R) : Ret PR 60 #[x0, x1, x2] w0 R :=
  ret_of_vc (fn := Try.f60) (c := body Try.f60) (x := a60) (args := [x0, x1, x2]) follows Try.func60 (body_eq (by kernel_rfl)) (by kernel_rfl) (Nat.le_of_ble_eq_true (by kernel_rfl))
    (Eq.mp (show f60 x0 x1 x2 w0 R = vcF PR Try.f60.results.toList (body Try.f60) a60 [x0, x1, x2] w0 R by kernel_rfl) h)

/-- (*drover/fib.Heap).less -/
def f61 (x0 x1 x2 : Value) (w0 : World) (R : Kv) : Prop :=
  join (X := Value × Value) (fun x43 w19 => ∀ _ : Env,
    pO (faO 0 x43.1) fun v45 =>
    lN 2 v45 w19 fun v46 =>
    pO (faO 0 x43.2) fun v47 =>
    lN 2 v47 w19 fun v48 =>
    Ret PR 32 #[v46, v48] w19 fun v49 w50 =>
    pO (exO v49 0) fun v51 =>
    pO (exO v49 1) fun v52 =>
    pO (faO 2 x43.1) fun v54 =>
    l1 v54 w50 fun v55 =>
    pO (faO 2 x43.2) fun v56 =>
    l1 v56 w50 fun v57 =>
    Ret PR 73 #[v55, v57] w50 fun v58 w59 =>
    Ret PR 74 #[x1, x2] w59 fun v60 w61 =>
    sv PR (Instr.buildSlice 84 3 #[(0, v51), (1, v58), (2, v60)]) w61 fun v62 w63 =>
    Ret PR 47 #[v62] w63 fun v64 w65 =>
    pO (arithO .lss v64 (.int .i64 0)) fun v66 =>
    R v66 w65)
  (fun K67 =>
    ∃ C68 : World → Prop, C68 w0.drew ∧
    pO (ncO x0) fun v69 =>
    pO (faO 0 v69) fun v70 =>
    pO (ncO x0) fun v71 =>
    pO (faO 0 v71) fun v72 =>
    l1C C68 v70 fun v73 =>
    pO (ixsO 10 v73 x1) fun v74 =>
    pO (faO 0 v74) fun v75 =>
    lNC C68 3 v75 fun v76 =>
    l1C C68 v72 fun v77 =>
    pO (ixsO 10 v77 x2) fun v78 =>
    pO (faO 0 v78) fun v79 =>
    lNC C68 3 v79 fun v80 =>
    (
      sv PR (Instr.alloc 60 true (.tuple #[])) w0.drew fun v81 w82 =>
      C68 w82 ∧
      sv PR (Instr.alloc 60 true (.tuple #[])) w82 fun v83 w84 =>
      C68 w84 ∧
      stW 3 v81 v76 w84 fun w85 =>
      C68 w85 ∧
      stW 3 v83 v80 w85 fun w86 =>
      K67 (v81, v83) w86) ∧ (
      sv PR (Instr.alloc 60 true (.tuple #[])) w0.drew fun v87 w88 =>
      C68 w88 ∧
      sv PR (Instr.alloc 60 true (.tuple #[])) w88 fun v89 w90 =>
      C68 w90 ∧
      stW 3 v89 v76 w90 fun w91 =>
      C68 w91 ∧
      stW 3 v87 v80 w91 fun w92 =>
      K67 (v89, v87) w92))
def a61 : Ann := (.two .nil (.join [11, 12, 13, 14, 15, 16, 17, 18, 19, 20, 21, 22, 23, 24, 25, 26, 7, 8] [7, 8] (.planT (.newC (.op 0 .pure (.op 1 .pure (.op 2 .pure (.op 4 .pure (.op 8 .pure (.op 9 .pure (.op 10 .pure (.op 12 .pure (.op 3 .load (.op 5 .pure (.op 6 .pure (.op 7 .load (.op 11 .load (.op 13 .pureF (.op 14 .pureF (.op 15 .load (.alt 16 .hardF (.op 17 .hardF (.op 18 .hardF (.op 19 .hard .done))) (.alt 17 .hardF (.op 16 .hardF (.op 18 .hardF (.op 19 .hard .done))) .stop)))))))))))))))))))) (.two .nil (.two .nil .nil))))
theorem f61_ret {x0 x1 x2 : Value} {w0 : World} {R : Kv} (h : f61 x0 x1 x2 w0 R) : Ret PR 61 #[x0, x1, x2] w0 R :=
  ret_of_vc (fn := Try.f61) (c := body Try.f61) (x := a61) (args := [x0, x1, x2]) follows Try.func61 (body_eq (by kernel_rfl)) (by kernel_rfl) (Nat.le_of_ble_eq_true (by kernel_rfl))
    (Eq.mp (show f61 x0 x1 x2 w0 R = vcF PR Try.f61.results.toList (body Try.f61) a61 [x0, x1, x2] w0 R by kernel_rfl) h)

/-- (*drover/fib.Heap).under -/
def f62 (x0 x1 x2 : Value) (w0 : World) (R : Kv) : Prop :=
  pO (ncO x0) fun v1 =>
  pO (faO 0 v1) fun v2 =>
  l1 v2 w0 fun v3 =>
  pO (ixsO 10 v3 x1) fun v5 =>
  pO (faO 3 v5) fun v6 =>
  stW 1 v6 x2 w0 fun w7 =>
  pO (ixsO 10 v3 x1) fun v9 =>
  pO (faO 5 v9) fun v10 =>
  stW 1 v10 x1 w7 fun w11 =>
  pO (ixsO 10 v3 x1) fun v12 =>
  pO (faO 6 v12) fun v13 =>
  stW 1 v13 x1 w11 fun w14 =>
  join (X := Unit) (fun x42 w34 => ∀ _ : Env,
    pO (ixsO 10 v3 x2) fun v43 =>
    pO (faO 7 v43) fun v44 =>
    l1 v44 w34 fun v45 =>
    pO (arithO .add v45 (.int .i64 1)) fun v46 =>
    pO (ixsO 10 v3 x2) fun v47 =>
    pO (faO 7 v47) fun v48 =>
    stW 1 v48 v46 w34 fun w49 =>
    R (.tuple #[]) w49)
  (fun K50 =>
    pO (ixsO 10 v3 x2) fun v52 =>
    pO (faO 4 v52) fun v53 =>
    l1 v53 w14 fun v54 =>
    pO (cmpO false (eqlO v54 (.int .i64 (-1)))) fun v55 =>
    cnd v55 (
      pO (ixsO 10 v3 x2) fun v56 =>
      pO (faO 4 v56) fun v57 =>
      stW 1 v57 x1 w14 fun w58 =>
      K50 () w58) (
      pO (ixsO 10 v3 x2) fun v59 =>
      pO (faO 4 v59) fun v60 =>
      l1 v60 w14 fun v61 =>
      Ret PR 60 #[x0, x1, v61] w14 fun v62 w63 =>
      K50 () w63))
def a62 : Ann := (.two .nil (.two .nil (.two .nil (.join [26, 27, 28, 29, 30, 31, 32, 33, 34, 35, 36, 37, 38, 39, 40, 41, 42, 43, 44] [] (.two .nil (.two .nil .nil)) .nil))))
theorem f62_ret {x0 x1 x2 : Value} {w0 : World} {R : Kv} (h : f62 x0 x1 x2 w0 R) : Ret PR 62 #[x0, x1, x2] w0 R :=
  ret_of_vc (fn := Try.f62) (c := body Try.f62) (x := a62) (args := [x0, x1, x2]) follows Try.func62 (body_eq (by kernel_rfl)) (by kernel_rfl) (Nat.le_of_ble_eq_true (by kernel_rfl))
    (Eq.mp (show f62 x0 x1 x2 w0 R = vcF PR Try.f62.results.toList (body Try.f62) a62 [x0, x1, x2] w0 R by kernel_rfl) h)

/-- drover/droverref02.Compare -/
def f63 (x0 x1 : Value) (w0 : World) (R : Kv) : Prop :=
  bx 111 x0 w0 fun v1 w2 =>
  bx 111 x1 w2 fun v3 w4 =>
  loopV (X := Value) (.int .i64 255) w4 (fun K61 x60 w23 => ∀ _ : Env,
    pO (arithO .geq x60 (.int .i64 0)) fun v64 =>
    cnd v64 (
      pO (ixaO 256 1 v1 x60) fun v67 =>
      pO (ixaO 256 1 v3 x60) fun v68 =>
      l1 v67 w23.drew fun v69 =>
      l1 v68 w23.drew fun v70 =>
      pO (cmpO true (eqbO v69 v70)) fun v71 =>
      cnd v71 (
        pO (ixaO 256 1 v3 x60) fun v74 =>
        l1 v74 w23.drew fun v75 =>
        cnd v75 (
          R (.int .i64 (-1)) w23.drew) (
          R (.int .i64 1) w23.drew)) (
        pO (arithO .sub x60 (.int .i64 1)) fun v78 =>
        K61 v78 w23.drew)) (
      R (.int .i64 0) w23))
def a63 : Ann := (.two .nil (.two (.two .nil (.loop [6, 7, 10, 11, 12, 13, 14, 15, 16, 17, 18, 19, 4, 8, 9, 5] [5] (.two (.two .nil (.two .nil .nil)) (.two (.two (.planA [(0, .pure), (1, .pure), (3, .pure), (4, .pure), (2, .load), (5, .load), (6, .pure)]) (.two (.two (.two .nil (.two (.two .nil .nil) .nil)) (.two .nil .nil)) .nil)) .nil)))) (.two .nil .nil)))
theorem f63_ret {x0 x1 : Value} {w0 : World} {R : Kv} (h : f63 x0 x1 w0 R) : Ret PR 63 #[x0, x1] w0 R :=
  ret_of_vc (fn := Try.f63) (c := body Try.f63) (x := a63) (args := [x0, x1]) follows Try.func63 (body_eq (by kernel_rfl)) (by kernel_rfl) (Nat.le_of_ble_eq_true (by kernel_rfl))
    (Eq.mp (show f63 x0 x1 w0 R = vcF PR Try.f63.results.toList (body Try.f63) a63 [x0, x1] w0 R by kernel_rfl) h)

/-- drover/droverref02.Of -/
def f64 (x0 : Value) (w0 : World) (R : Kv) : Prop :=
  sv PR (Instr.alloc 111 true (.tuple #[])) w0 fun v1 w2 =>
  sv PR (Instr.alloc 111 true (.tuple #[])) w2 fun v4 w5 =>
  loopV (X := Value) (.int .i64 0) w5 (fun K53 x52 w21 => ∀ _ : Env,
    pO (arithO .lss x52 (.int .i64 64)) fun v56 =>
    cnd v56 (
      pO (cviO .u64 x52) fun v58 =>
      pO (arithO .shr x0 v58) fun v59 =>
      pO (arithO .and v59 (.int .u64 1)) fun v60 =>
      pO (cmpO false (eqlO v60 (.int .u64 1))) fun v61 =>
      pO (ixaO 256 1 v4 x52) fun v62 =>
      stW 1 v62 v61 w21 fun w63 =>
      pO (arithO .add x52 (.int .i64 1)) fun v64 =>
      K53 v64 w63) (
      lN 256 v4 w21 fun v66 =>
      stW 256 v1 v66 w21 fun w67 =>
      lN 256 v1 w67 fun v68 =>
      R v68 w67))
def a64 : Ann := (.two .nil (.two .nil (.two (.two .nil (.loop [5, 6, 9, 10, 11, 12, 13, 14, 15, 16, 7, 8, 4] [4] (.two (.two .nil (.two .nil .nil)) (.two .nil .nil)))) (.two .nil .nil))))
theorem f64_ret {x0 : Value} {w0 : World} {R : Kv} (h : f64 x0 w0 R) : Ret PR 64 #[x0] w0 R :=
  ret_of_vc (fn := Try.f64) (c := body Try.f64) (x := a64) (args := [x0]) follows Try.func64 (body_eq (by kernel_rfl)) (by kernel_rfl) (Nat.le_of_ble_eq_true (by kernel_rfl))
    (Eq.mp (show f64 x0 w0 R = vcF PR Try.f64.results.toList (body Try.f64) a64 [x0] w0 R by kernel_rfl) h)

/-- drover/droverref02.Times -/
def f65 (x0 x1 : Value) (w0 : World) (R : Kv) : Prop :=
  bx 111 x0 w0 fun v1 w2 =>
  sv PR (Instr.alloc 111 true (.tuple #[])) w2 fun v3 w4 =>
  sv PR (Instr.alloc 111 true (.tuple #[])) w4 fun v6 w7 =>
  loopV (X := Value) (.int .i64 0) w7 (fun K108 x107 w26 => ∀ _ : Env,
    pO (arithO .lss x107 (.int .i64 64)) fun v111 =>
    cnd v111 (
      join (X := Unit) (fun x128 w122 => ∀ _ : Env,
        lN 256 v1 w122 fun v129 =>
        Ret PR 76 #[v129] w122 fun v130 w131 =>
        stW 256 v1 v130 w131 fun w132 =>
        pO (arithO .add x107 (.int .i64 1)) fun v133 =>
        K108 v133 w132)
      (fun K134 =>
        pO (cviO .u64 x107) fun v136 =>
        pO (arithO .shr x1 v136) fun v137 =>
        pO (arithO .and v137 (.int .u64 1)) fun v138 =>
        pO (cmpO false (eqlO v138 (.int .u64 1))) fun v139 =>
        cnd v139 (
          lN 256 v6 w26 fun v140 =>
          lN 256 v1 w26 fun v141 =>
          Ret PR 75 #[v140, v141] w26 fun v142 w143 =>
          stW 256 v6 v142 w143 fun w144 =>
          K134 () w144) (
          K134 () w26))) (
      lN 256 v6 w26 fun v146 =>
      stW 256 v3 v146 w26 fun w147 =>
      lN 256 v3 w147 fun v148 =>
      R v148 w147))
def a65 : Ann := (.two .nil (.two .nil (.two (.two .nil (.loop [7, 8, 11, 12, 13, 14, 15, 16, 17, 18, 19, 20, 21, 9, 10, 6] [6] (.two (.two .nil (.two .nil .nil)) (.two (.join [11, 12, 13, 14, 15, 16, 17, 18, 19] [] (.two .nil (.two .nil .nil)) .nil) .nil)))) (.two .nil .nil))))
theorem f65_ret {x0 x1 : Value} {w0 : World} {R : Kv} (h : f65 x0 x1 w0 R) : Ret PR 65 #[x0, x1] w0 R :=
  ret_of_vc (fn := Try.f65) (c := body Try.f65) (x := a65) (args := [x0, x1]) follows Try.func65 (body_eq (by kernel_rfl)) (by kernel_rfl) (Nat.le_of_ble_eq_true (by kernel_rfl))
    (Eq.mp (show f65 x0 x1 w0 R = vcF PR Try.f65.results.toList (body Try.f65) a65 [x0, x1] w0 R by kernel_rfl) h)

/-- drover/ratio.gcd -/
def f66 (x0 x1 : Value) (w0 : World) (R : Kv) : Prop :=
  loopV (X := Value × Value) (x0, x1) w0 (fun K22 x21 w10 => ∀ _ : Env,
    pO (cmpO true (eqlO x21.2 (.int .u64 0))) fun v25 =>
    cnd v25 (
      pO (arithO .rem x21.1 x21.2) fun v26 =>
      K22 (x21.2, v26) w10.drew) (
      R x21.1 w10))
def a66 : Ann := (.two .nil (.two (.loop [5, 6, 7, 8, 9, 10, 0, 1] [0, 1] (.two (.two .nil (.two .nil .nil)) (.planA [(0, .pure), (1, .pure), (2, .pure), (3, .pure), (4, .pure), (5, .pure)]))) (.two .nil .nil)))
theorem f66_ret {x0 x1 : Value} {w0 : World} {R : Kv} (h : f66 x0 x1 w0 R) : Ret PR 66 #[x0, x1] w0 R :=
  ret_of_vc (fn := Try.f66) (c := body Try.f66) (x := a66) (args := [x0, x1]) follows Try.func66 (body_eq (by kernel_rfl)) (by kernel_rfl) (Nat.le_of_ble_eq_true (by kernel_rfl))
    (Eq.mp (show f66 x0 x1 w0 R = vcF PR Try.f66.results.toList (body Try.f66) a66 [x0, x1] w0 R by kernel_rfl) h)

/-- cmp.isNaN[uint64] -/
def f67 (x0 : Value) (w0 : World) (R : Kv) : Prop :=
  pO (cmpO true (eqlO x0 x0)) fun v2 =>
  R v2 w0
def a67 : Ann := (.two .nil (.two .nil .nil))
theorem f67_ret {x0 : Value} {w0 : World} {R : Kv} (h : f67 x0 w0 R) : Ret PR 67 #[x0] w0 R :=
  ret_of_vc (fn := Try.f67) (c := body Try.f67) (x := a67) (args := [x0]) follows Try.func67 (body_eq (by kernel_rfl)) (by kernel_rfl) (Nat.le_of_ble_eq_true (by kernel_rfl))
    (Eq.mp (show f67 x0 w0 R = vcF PR Try.f67.results.toList (body Try.f67) a67 [x0] w0 R by kernel_rfl) h)

/-- cmp.Compare[int64] -/
def f73 (x0 x1 : Value) (w0 : World) (R : Kv) : Prop :=
  Ret PR 78 #[x0] w0 fun v2 w3 =>
  Ret PR 78 #[x1] w3 fun v5 w6 =>
  cnd v2 (
    cnd v5 (
      R (.int .i64 0) w6) (
      R (.int .i64 (-1)) w6)) (
    cnd v5 (
      R (.int .i64 1) w6) (
      pO (arithO .lss x0 x1) fun v18 =>
      cnd v18 (
        R (.int .i64 (-1)) w6) (
        pO (arithO .gtr x0 x1) fun v22 =>
        cnd v22 (
          R (.int .i64 1) w6) (
          R (.int .i64 0) w6))))
def a73 : Ann := (.two .nil (.two .nil (.two .nil (.two (.two .nil (.two (.two (.two .nil (.two (.two .nil .nil) .nil)) (.two .nil .nil)) .nil)) (.two (.two .nil (.two (.two .nil .nil) .nil)) (.two (.two .nil (.two (.two .nil .nil) .nil)) (.two (.two .nil (.two (.two .nil .nil) .nil)) (.two .nil .nil))))))))
theorem f73_ret {x0 x1 : Value} {w0 : World} {R : Kv} (h : f73 x0 x1 w0 R) : Ret PR 73 #[x0, x1] w0 R :=
  ret_of_vc (fn := Try.f73) (c := body Try.f73) (x := a73) (args := [x0, x1]) follows Try.func73 (body_eq (by kernel_rfl)) (by kernel_rfl) (Nat.le_of_ble_eq_true (by kernel_rfl))
    (Eq.mp (show f73 x0 x1 w0 R = vcF PR Try.f73.results.toList (body Try.f73) a73 [x0, x1] w0 R by kernel_rfl) h)

/-- cmp.Compare[int] -/
def f74 (x0 x1 : Value) (w0 : World) (R : Kv) : Prop :=
  Ret PR 79 #[x0] w0 fun v2 w3 =>
  Ret PR 79 #[x1] w3 fun v5 w6 =>
  cnd v2 (
    cnd v5 (
      R (.int .i64 0) w6) (
      R (.int .i64 (-1)) w6)) (
    cnd v5 (
      R (.int .i64 1) w6) (
      pO (arithO .lss x0 x1) fun v18 =>
      cnd v18 (
        R (.int .i64 (-1)) w6) (
        pO (arithO .gtr x0 x1) fun v22 =>
        cnd v22 (
          R (.int .i64 1) w6) (
          R (.int .i64 0) w6))))
def a74 : Ann := (.two .nil (.two .nil (.two .nil (.two (.two .nil (.two (.two (.two .nil (.two (.two .nil .nil) .nil)) (.two .nil .nil)) .nil)) (.two (.two .nil (.two (.two .nil .nil) .nil)) (.two (.two .nil (.two (.two .nil .nil) .nil)) (.two (.two .nil (.two (.two .nil .nil) .nil)) (.two .nil .nil))))))))
theorem f74_ret {x0 x1 : Value} {w0 : World} {R : Kv} (h : f74 x0 x1 w0 R) : Ret PR 74 #[x0, x1] w0 R :=
  ret_of_vc (fn := Try.f74) (c := body Try.f74) (x := a74) (args := [x0, x1]) follows Try.func74 (body_eq (by kernel_rfl)) (by kernel_rfl) (Nat.le_of_ble_eq_true (by kernel_rfl))
    (Eq.mp (show f74 x0 x1 w0 R = vcF PR Try.f74.results.toList (body Try.f74) a74 [x0, x1] w0 R by kernel_rfl) h)

/-- drover/droverref02.plus -/
def f75 (x0 x1 : Value) (w0 : World) (R : Kv) : Prop :=
  bx 111 x0 w0 fun v1 w2 =>
  bx 111 x1 w2 fun v3 w4 =>
  sv PR (Instr.alloc 111 true (.tuple #[])) w4 fun v5 w6 =>
  sv PR (Instr.alloc 111 true (.tuple #[])) w6 fun v8 w9 =>
  loopV (X := Value × Value) ((.bool false), (.int .i64 0)) w9 (fun K957 x956 w47 => ∀ _ : Env,
    pO (arithO .lss x956.2 (.int .i64 256)) fun v960 =>
    cnd v960 (
      pO (ixaO 256 1 v1 x956.2) fun v963 =>
      pO (ixaO 256 1 v3 x956.2) fun v964 =>
      l1 v963 w47.drew fun v965 =>
      l1 v964 w47.drew fun v966 =>
      pO (cmpO true (eqbO v965 v966)) fun v968 =>
      pO (cmpO true (eqbO v968 x956.1)) fun v969 =>
      pO (ixaO 256 1 v8 x956.2) fun v970 =>
      stW 1 v970 v969 w47.drew fun w971 =>
      gB (X := Value) v965 true undef (fun K1407 =>
        K1407 v966 w971) w971 fun x1190 w973 =>
      pO (pkO v965 x1190 (.bool false)) fun v1191 =>
      gB (X := Value) v1191 false undef (fun K1406 =>
        K1406 x956.1 w973) w973 fun x1300 w1194 =>
      gB (X := Value) x1300 true undef (fun K1405 =>
        K1405 v965 w1194) w1194 fun x1354 w1303 =>
      gB (X := Value) x1354 false undef (fun K1404 =>
        K1404 v966 w1303) w1303 fun x1380 w1356 =>
      gB (X := Value) x1300 true undef (fun K1402 =>
        pO (pkO x1354 (.bool true) x1380) fun v1403 =>
        K1402 v1403 w1356) w1356 fun x1392 w1382 =>
      gB (X := Value) v1191 false undef (fun K1400 =>
        pO (pkO x1300 x1392 (.bool false)) fun v1401 =>
        K1400 v1401 w1382) w1382 fun x1397 w1394 =>
      pO (pkO v1191 (.bool true) x1397) fun v1398 =>
      pO (arithO .add x956.2 (.int .i64 1)) fun v1399 =>
      K957 (v1398, v1399) w1394) (
      lN 256 v8 w47 fun v1409 =>
      stW 256 v5 v1409 w47 fun w1410 =>
      lN 256 v5 w1410 fun v1411 =>
      R v1411 w1410))
def a75 : Ann := (.two .nil (.two .nil (.two .nil (.two (.two .nil (.loop [10, 11, 14, 15, 16, 17, 18, 19, 8, 9, 20, 21, 22, 23, 24, 25, 26, 27, 28, 29, 30, 31, 32, 33, 34, 35, 36, 37, 38, 39, 6, 12, 13, 7] [6, 7] (.two (.two .nil (.two .nil .nil)) (.two (.two (.planA [(0, .pure), (1, .pure), (3, .pure), (4, .pure), (2, .load), (6, .pure), (5, .load), (7, .pure)]) (.two .nil .nil)) .nil)))) (.two .nil .nil)))))
theorem f75_ret {x0 x1 : Value} {w0 : World} {R : Kv} (h : f75 x0 x1 w0 R) : Ret PR 75 #[x0, x1] w0 R :=
  ret_of_vc (fn := Try.f75) (c := body Try.f75) (x := a75) (args := [x0, x1]) follows Try.func75 (body_eq (by kernel_rfl)) (by kernel_rfl) (Nat.le_of_ble_eq_true (by kernel_rfl))
    (Eq.mp (show f75 x0 x1 w0 R = vcF PR Try.f75.results.toList (body Try.f75) a75 [x0, x1] w0 R by kernel_rfl) h)

/-- drover/droverref02.up -/
def f76 (x0 : Value) (w0 : World) (R : Kv) : Prop :=
  bx 111 x0 w0 fun v1 w2 =>
  sv PR (Instr.alloc 111 true (.tuple #[])) w2 fun v3 w4 =>
  sv PR (Instr.alloc 111 true (.tuple #[])) w4 fun v6 w7 =>
  loopV (X := Value) (.int .i64 1) w7 (fun K51 x50 w21 => ∀ _ : Env,
    pO (arithO .lss x50 (.int .i64 256)) fun v54 =>
    cnd v54 (
      pO (arithO .sub x50 (.int .i64 1)) fun v56 =>
      pO (ixaO 256 1 v1 v56) fun v57 =>
      l1 v57 w21 fun v58 =>
      pO (ixaO 256 1 v6 x50) fun v59 =>
      stW 1 v59 v58 w21 fun w60 =>
      pO (arithO .add x50 (.int .i64 1)) fun v61 =>
      K51 v61 w60) (
      lN 256 v6 w21 fun v63 =>
      stW 256 v3 v63 w21 fun w64 =>
      lN 256 v3 w64 fun v65 =>
      R v65 w64))
def a76 : Ann := (.two .nil (.two .nil (.two (.two .nil (.loop [5, 6, 9, 10, 11, 12, 13, 14, 7, 8, 4] [4] (.two (.two .nil (.two .nil .nil)) (.two .nil .nil)))) (.two .nil .nil))))
theorem f76_ret {x0 : Value} {w0 : World} {R : Kv} (h : f76 x0 w0 R) : Ret PR 76 #[x0] w0 R :=
  ret_of_vc (fn := Try.f76) (c := body Try.f76) (x := a76) (args := [x0]) follows Try.func76 (body_eq (by kernel_rfl)) (by kernel_rfl) (Nat.le_of_ble_eq_true (by kernel_rfl))
    (Eq.mp (show f76 x0 w0 R = vcF PR Try.f76.results.toList (body Try.f76) a76 [x0] w0 R by kernel_rfl) h)

/-- cmp.isNaN[int64] -/
def f78 (x0 : Value) (w0 : World) (R : Kv) : Prop :=
  pO (cmpO true (eqlO x0 x0)) fun v2 =>
  R v2 w0
def a78 : Ann := (.two .nil (.two .nil .nil))
theorem f78_ret {x0 : Value} {w0 : World} {R : Kv} (h : f78 x0 w0 R) : Ret PR 78 #[x0] w0 R :=
  ret_of_vc (fn := Try.f78) (c := body Try.f78) (x := a78) (args := [x0]) follows Try.func78 (body_eq (by kernel_rfl)) (by kernel_rfl) (Nat.le_of_ble_eq_true (by kernel_rfl))
    (Eq.mp (show f78 x0 w0 R = vcF PR Try.f78.results.toList (body Try.f78) a78 [x0] w0 R by kernel_rfl) h)

/-- cmp.isNaN[int] -/
def f79 (x0 : Value) (w0 : World) (R : Kv) : Prop :=
  pO (cmpO true (eqlO x0 x0)) fun v2 =>
  R v2 w0
def a79 : Ann := (.two .nil (.two .nil .nil))
theorem f79_ret {x0 : Value} {w0 : World} {R : Kv} (h : f79 x0 w0 R) : Ret PR 79 #[x0] w0 R :=
  ret_of_vc (fn := Try.f79) (c := body Try.f79) (x := a79) (args := [x0]) follows Try.func79 (body_eq (by kernel_rfl)) (by kernel_rfl) (Nat.le_of_ble_eq_true (by kernel_rfl))
    (Eq.mp (show f79 x0 w0 R = vcF PR Try.f79.results.toList (body Try.f79) a79 [x0] w0 R by kernel_rfl) h)

end Go.Proofs.Ythhpdcegkbfijaa.T
